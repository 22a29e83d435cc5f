/- Open, plain. -/
import Derived.Test.YtbikplckehbcnaaDoorOpen
set_option linter.unusedVariables false
set_option linter.unusedSimpArgs false
namespace Go.Proofs.YtbikplckehbcnaaDoor
open Go Go.RowKit

abbrev Pg := Int × List Slt
theorem encS_inj {l l' : Int} {xs xs' : List Slt} (h : GoodP l xs) (h' : GoodP l' xs') (he : encS l xs = encS l' xs') : l = l' ∧ xs = xs' := by
  have e := congrArg numsT he
  rw [encS_nums h, encS_nums h'] at e
  have h8 : (putB l 8).length = (putB l' 8).length := by rw [putB_length, putB_length]
  obtain ⟨e1, e2⟩ := List.append_inj e h8
  have hl : l = l' := by
    have a := getN_putB l h.l0 (by have := h.l1; omega)
    have b := getN_putB l' h'.l0 (by have := h'.l1; omega)
    rw [← a, ← b, e1]
  refine ⟨hl, ?_⟩
  simp only [List.cons_append, List.nil_append, List.cons.injEq] at e2
  obtain ⟨hn, e3⟩ := e2
  have hlen : xs.length = xs'.length := by omega
  have sh : ∀ {l : Int} {xs : List Slt}, GoodP l xs → ∀ x ∈ xs, ShapeS x := fun h x hx => shape_of_good (by have := List.any_eq_false.1 h.o x hx; simpa using this)
  obtain ⟨h1, _⟩ := parse_unique xs xs' _ _ (sh h) (sh h') (by omega) e3
  rw [h1, hlen, List.take_length]
theorem sectS_inj {n : Int} {l l' : Int} {xs xs' : List Slt} (h : GoodP l xs) (h' : GoodP l' xs') (he : sectS n l xs = sectS n l' xs') : l = l' ∧ xs = xs' :=
  encS_inj h h' (by rw [← sectS_front (n := n) h, ← sectS_front (n := n) h', he])

open Classical in
/-- The page of which t is the sector with the number n. -/
noncomputable def pgOf (n : Int) (t : ByteArray) : Option Pg := if h : ∃ x : Pg, GoodP x.1 x.2 ∧ sectS n x.1 x.2 = t then some h.choose else none
theorem pgOf_some {n : Int} {t : ByteArray} {l : Int} {xs : List Slt} (h : GoodP l xs) (he : sectS n l xs = t) : pgOf n t = some (l, xs) := by
  unfold pgOf
  have hx : ∃ x : Pg, GoodP x.1 x.2 ∧ sectS n x.1 x.2 = t := ⟨(l, xs), h, he⟩
  rw [dif_pos hx]
  obtain ⟨h1, h2⟩ := hx.choose_spec
  obtain ⟨e1, e2⟩ := sectS_inj h1 h (h2.trans he.symm)
  exact congrArg some (Prod.ext e1 e2)
theorem pgOf_none {n : Int} {t : ByteArray} (h : ∀ l xs, GoodP l xs → sectS n l xs ≠ t) : pgOf n t = none := by
  unfold pgOf
  rw [dif_neg]
  rintro ⟨x, h1, h2⟩
  exact h _ _ h1 h2
theorem pgOf_spec {n : Int} {t : ByteArray} {l : Int} {xs : List Slt} (h : pgOf n t = some (l, xs)) : GoodP l xs ∧ sectS n l xs = t := by
  unfold pgOf at h
  split at h
  · rename_i hx
    have := hx.choose_spec
    rw [Option.some.inj h] at this
    exact this
  · cases h
theorem PageIs.pg {w w' : World} {n : Int} {s : ByteArray} {v : Value} (h : PageIs w w' n s v) :
    (∃ l xs A c, pgOf n s = some (l, xs) ∧ v = .tuple #[.agg #[.int .i64 l, .slice A xs.length c], .bool true] ∧ Slots w' (fun k => k < w.heap.size) A xs) ∨ (pgOf n s = none ∧ v = .tuple #[.agg #[.int .i64 0, .slice none 0 0], .bool false]) := by
  rcases h with ⟨l, xs, A, c, hg, he, hv, hs⟩ | ⟨h, hv⟩
  · exact .inl ⟨l, xs, A, c, pgOf_some hg he, hv, hs⟩
  · exact .inr ⟨pgOf_none h, hv⟩

/-- A sector that was written is torn or whole. -/
def Full (s : PSt) : Prop := ∀ n t, s.secs n = some t → t.size = 0 ∨ t.size = 256
theorem read_full {s : PSt} (hf : Full s) (ho : s.Ok) {n : Int} (h : (s.read n).2 = 0) : (s.read n).1.size = 256 := by
  unfold PSt.read at h ⊢
  split
  · rename_i h1
    rw [if_pos h1] at h
    exact absurd h h1
  · rename_i h1
    rw [if_neg h1] at h
    split
    · rename_i t ht
      unfold PSt.last at ht
      obtain ⟨x, hx, rfl⟩ := Option.map_eq_some_iff.1 ht
      exact (ho.que x (List.mem_reverse.1 (List.mem_of_find?_eq_some hx))).2.2
    · rename_i ht
      rw [ht] at h
      split
      · exact zeros_size
      · rename_i t hs
        rw [hs] at h
        simp only at h ⊢
        split
        · rename_i h2
          rw [if_pos h2] at h
          cases h
        · rename_i h2
          rcases hf n t hs with h3 | h3
          · exact absurd h3 h2
          · exact h3

/-- The best copy so far, and the next. -/
noncomputable def copStep (s : PSt) (frm n : Nat) (b : Option Pg) (i : Nat) : Option Pg :=
  if (s.read ((frm + i : Nat) : Int)).2 ≠ 0 then b else
    match pgOf (n : Int) (s.read ((frm + i : Nat) : Int)).1 with
    | none => b
    | some p => match b with
      | none => some p
      | some q => if q.1 < p.1 then some p else some q
noncomputable def copP (s : PSt) (frm tw n : Nat) : Option Pg := (List.range tw).foldl (copStep s frm n) none

/-- load: the plate, whether something was written home, the page (and whether it could be read), or the error. -/
noncomputable def loadP (s : PSt) (frm tw n : Nat) (dead : Bool) : PSt × Bool × Option (Bool × Pg) × Int :=
  if (s.read ((frm + tw + n : Nat) : Int)).2 = 0 then
    match pgOf (n : Int) (s.read ((frm + tw + n : Nat) : Int)).1 with
    | some p => (s, dead, some (true, p), 0)
    | none => (s, dead, some (allZ (s.read ((frm + tw + n : Nat) : Int)).1, (0, [])), 0)
  else match copP s frm tw n with
    | none => (s, dead, some (false, (0, [])), 0)
    | some p =>
      if (s.write ((frm + tw + n : Nat) : Int) (sectS n p.1 p.2)).2 ≠ 0 then ((s.write ((frm + tw + n : Nat) : Int) (sectS n p.1 p.2)).1, dead, none, (s.write ((frm + tw + n : Nat) : Int) (sectS n p.1 p.2)).2)
      else ((s.write ((frm + tw + n : Nat) : Int) (sectS n p.1 p.2)).1, true, some (true, p), 0)

/-- The pages from 0 on: the plate, whether something was written, the pages, whether all could be read; or the plate and the error. -/
noncomputable def openN (s : PSt) (frm tw : Nat) : Nat → (PSt × Int) ⊕ (PSt × Bool × List Pg × Bool)
  | 0 => .inr (s, false, [], true)
  | n + 1 => match openN s frm tw n with
    | .inl e => .inl e
    | .inr (s1, d, ps, wh) => match loadP s1 frm tw n d with
      | (s2, _, none, e) => .inl (s2, e)
      | (s2, d2, some (ok, p), _) => .inr (s2, d2, ps ++ [p], wh && ok)
/-- Open, at arguments that can be, the power on. -/
noncomputable def openP (s : PSt) (frm tw np : Nat) : PSt × Option (List Pg) × Int :=
  match openN s frm tw np with
  | .inl (s', e) => (s', none, e)
  | .inr (s1, d, ps, wh) =>
    if (if d = true then s1.sync else (s1, 0)).2 ≠ 0 then ((if d = true then s1.sync else (s1, 0)).1, none, (if d = true then s1.sync else (s1, 0)).2)
    else if wh = true then ((if d = true then s1.sync else (s1, 0)).1, some ps, 0) else ((if d = true then s1.sync else (s1, 0)).1, none, 4)

end Go.Proofs.YtbikplckehbcnaaDoor
