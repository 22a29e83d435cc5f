/- tome.Parse: what its walk takes: a line's words; a step in memory. -/
import Derived.Test.YtbikplckehbcnaaDoorTmC
set_option linter.unusedVariables false
set_option linter.unusedSimpArgs false
namespace Go.Proofs.YtbikplckehbcnaaDoor
open Go Go.RowKit

/-! ### a line's words -/
theorem index_one (b c : UInt8) (t : Bs) : Lib.index (b :: t) [c] = if b = c then 0 else if Lib.index t [c] = -1 then -1 else Lib.index t [c] + 1 := by
  show (if ([c] : List UInt8).isPrefixOf (b :: t) then (0 : Int) else if Lib.index t [c] == -1 then -1 else Lib.index t [c] + 1) = _
  by_cases h : b = c
  · subst h
    simp [List.isPrefixOf]
  · have h' : ¬ c = b := fun e => h e.symm
    simp [List.isPrefixOf, h, h']
theorem split_cut (c : UInt8) : ∀ l : Bs, Lib.splitK [c] 0 (Lib.count l [c]) l = cutAt c l
  | [] => by rfl
  | b :: t => by
    have ih := split_cut c t
    by_cases h : b = c
    · subst h
      rw [Lib.count_cons_eq, Nat.add_comm 1]
      unfold Lib.splitK
      rw [index_one, if_pos rfl]
      simp only [cutAt, beq_self_eq_true, if_true]
      rw [← ih]
      rfl
    · rw [Lib.count_cons_ne b c t h]
      have hc : cutAt c (b :: t) = match cutAt c t with | [] => [[b]] | h :: r => (b :: h) :: r := by
        conv => lhs; unfold cutAt
        rw [if_neg (by simpa using h)]
        cases cutAt c t <;> rfl
      rw [hc, ← ih]
      cases hn : Lib.count t [c] with
      | zero => rfl
      | succ m =>
        have hi : Lib.index t [c] ≠ -1 := fun e => by rw [Lib.count_miss e] at hn; cases hn
        have hg := Lib.index_ge t [c]
        unfold Lib.splitK
        rw [index_one, if_neg h, if_neg hi]
        have e1 : ¬ ((Lib.index t [c] + 1 == -1) = true) := by rw [beq_iff_eq]; omega
        have e2 : ¬ ((Lib.index t [c] == -1) = true) := by rw [beq_iff_eq]; exact hi
        rw [if_neg e1, if_neg e2]
        simp only [Nat.add_zero, List.length_singleton]
        rw [show (Lib.index t [c] + 1).toNat = (Lib.index t [c]).toNat + 1 by omega]
        rfl
theorem splitB_cut (c : UInt8) (l : Bs) : Lib.splitB ⟨#[c]⟩ 0 (Lib.countB (ba l) ⟨#[c]⟩) (ba l) = (cutAt c l).map ba := by
  have h := Lib.splitB_data ⟨#[c]⟩ 0 (Lib.countB (ba l) ⟨#[c]⟩) (ba l)
  rw [show (⟨#[c]⟩ : ByteArray).data.toList = [c] from rfl, ba_list, show Lib.countB (ba l) ⟨#[c]⟩ = Lib.count l [c] from rfl, split_cut] at h
  have h2 := congrArg (List.map ba) h
  rw [List.map_map] at h2
  rw [← h2]
  conv => lhs; rw [← List.map_id (Lib.splitB ⟨#[c]⟩ 0 (Lib.countB (ba l) ⟨#[c]⟩) (ba l))]
  exact List.map_congr_left fun x _ => rfl
theorem cut_len (c : UInt8) : ∀ l : Bs, ∀ x ∈ cutAt c l, x.length ≤ l.length
  | [], x, hx => by simp [cutAt] at hx; subst hx; simp
  | b :: t, x, hx => by
    have ih := cut_len c t
    unfold cutAt at hx
    split at hx
    · rcases List.mem_cons.1 hx with rfl | hx
      · simp
      · have := ih x hx; simp; omega
    · split at hx
      · rcases List.mem_cons.1 hx with rfl | hx
        · simp
        · cases hx
      · rename_i h r hr
        rw [hr] at ih
        rcases List.mem_cons.1 hx with rfl | hx
        · have := ih h (by simp); simp; omega
        · have := ih x (List.mem_cons_of_mem _ hx); simp; omega
theorem split_any (l : Bs) (hl : l.length ≤ 131072) (w : World) (hT : Tabs w) :
    Calls Tryd.prog 47 #[.string (ba l), .string ⟨#[32]⟩] w fun e w' => e = .returned (.slice (some ⟨w.heap.size, 0, none⟩) (cutAt 32 l).length (cutAt 32 l).length) ∧ w' = w.alloc (.cells ((cutAt 32 l).map fun x => Value.string (ba x)).toArray 9) := by
  obtain ⟨m, hm⟩ := hT.ml
  have hlen : (ba l).size = l.length := rfl
  have h := Tryd.strings_Split (ba l) ⟨#[32]⟩ m w (by omega) hm (by decide)
  have hc := congrArg List.length (splitB_cut 32 l)
  rw [Lib.splitB_all ⟨#[32]⟩ (by decide) 0 _ _ rfl, List.length_map] at hc
  rw [splitB_cut, hc, List.map_map] at h
  exact h

/-! ### a step in memory -/
/-- The numbers fs lie behind v. -/
def Ints (w : World) (v : Value) (fs : List Int) : Prop :=
  ∃ A c, v = .slice A fs.length c ∧ (0 < fs.length → ∃ b off, A = some ⟨b, off, none⟩ ∧ b < w.heap.size ∧ ∀ (j : Nat) (n : Int), fs[j]? = some n → w.cell? ⟨b, off + j, none⟩ = some (.int .i64 n))
theorem Ints.below {w w' : World} {v : Value} {fs : List Int} (h : Ints w v fs) (hb : Below w.heap.size w w') : Ints w' v fs := by
  obtain ⟨A, c, e, h⟩ := h
  refine ⟨A, c, e, fun hn => ?_⟩
  obtain ⟨b, off, e2, hl, hc⟩ := h hn
  exact ⟨b, off, e2, Nat.lt_of_lt_of_le hl hb.size, fun j n hj => (hb.cell (p := ⟨b, off + j, none⟩) hl).trans (hc j n hj)⟩
theorem Ints.nil (w : World) : Ints w (.slice none 0 0) [] := ⟨none, 0, rfl, fun h => by simp at h⟩
theorem Ints.own {w : World} {base : Nat} {v : Value} {fs : List Int} (h : w.ownsRow base 3 1 v fs.length (fs.map (Value.int .i64))) : Ints w v fs := by
  rcases h.2 with ⟨rfl, h0⟩ | ⟨g, cap, cur, rfl, _, hg, h1, h2, h3, h4⟩
  · obtain rfl := List.length_eq_zero_iff.1 h0
    exact Ints.nil w
  · refine ⟨_, _, rfl, fun _ => ⟨g, 0, rfl, (Array.getElem?_eq_some_iff.1 hg).1, fun j n hj => ?_⟩⟩
    rw [Nat.zero_add, cell_of_row w g j cur _ _ hg]
    have hjl := (List.getElem?_eq_some_iff.1 hj).1
    have e : (cur.toList.take (fs.length * 1))[j]? = (fs.map (Value.int .i64))[j]? := by rw [h4]
    rw [List.getElem?_take, if_pos (by omega), List.getElem?_map, hj] at e
    rw [← Array.getElem?_toList, e]
    rfl

/-- A step's cells. -/
def stC (s : StepP) (v : Value) : Array Value := #[.int .i64 s.kind, .int .i64 s.client, .bool s.up, .int .i64 s.n, v, .int .i64 s.call.kind, .int .i64 s.call.page, .int .i64 s.call.slot, .string (ba s.call.data)]
theorem step_info : ((Tryd.prog.info? 60).map (·.size)) = some 9 := by kernel_rfl
theorem step_load (W : World) (g : Nat) (t : TypeId) (a b c d e f h i j : Value) (hb : Blk W g t #[a, b, c, d, e, f, h, i, j]) : (loadVar 60 ⟨g, 0, none⟩).run Tryd.prog W = .ok (.agg #[a, b, c, d, e, f, h, i, j]) W :=
  run_loadVar_row W g t 60 #[a, b, c, d, e, f, h, i, j] (0, 0) _ hb Tryd.underlying60 rfl step_info
theorem step_results {fn : Func} {p q : Tmp} (h : fn.results = #[.cell p 60, .tmp q]) (tmps : Array Value) (W : World) (g : Nat) (t : TypeId) (a b c d e f k i j x : Value) (hp : tmps.getD p undef = .pointer (some ⟨g, 0, none⟩)) (hq : tmps.getD q undef = x) (hb : Blk W g t #[a, b, c, d, e, f, k, i, j]) :
    (results fn tmps).run Tryd.prog W = .ok (.tuple #[.agg #[a, b, c, d, e, f, k, i, j], x]) W := by
  rw [results_cell_tmp h, hp, hq]
  simp [asAddr, step_load W g t a b c d e f k i j hb]
def zeroC : Array Value := #[.int .i64 0, .int .i64 0, .bool false, .int .i64 0, .slice none 0 0, .int .i64 0, .int .i64 0, .int .i64 0, .string ⟨#[]⟩]

theorem RdAt.blk {w : World} {p : Nat} {r : Rd} (h : RdAt w p r) : Blk w p 100 #[.slice h.choose r.1.length r.1.length, .bool r.2] := h.choose_spec.1
/-- The state while a line is read: the reader, the two steps of the call's own. -/
structure PSt (w wr : World) (p b0 bx : Nat) (r : Rd) (cs : Array Value) : Prop where
  rd : RdAt wr p r
  z : Blk wr b0 60 #[.int .i64 0, .int .i64 0, .bool false, .int .i64 0, .slice none 0 0, .int .i64 0, .int .i64 0, .int .i64 0, .string ⟨#[]⟩]
  x : Blk wr bx 60 cs
  fr : Below w.heap.size w wr
  tabs : Tabs wr
  h8 : 8 ≤ w.heap.size
  h0 : w.heap.size ≤ b0
  hx : w.heap.size ≤ bx
  hp : w.heap.size ≤ p
  ne : b0 ≠ bx
  ne1 : p ≠ b0
  ne2 : p ≠ bx
theorem PSt.step {w wr w2 : World} {p b0 bx : Nat} {r r2 : Rd} {cs : Array Value} (h : PSt w wr p b0 bx r cs) (hr : RdAt w2 p r2) (hf : Fr (One p) wr w2) : PSt w w2 p b0 bx r2 cs :=
  ⟨hr, h.z.fr hf (fun e => h.ne1 (show p = b0 from (show b0 = p from e).symm)), h.x.fr hf (fun e => h.ne2 (show p = bx from (show bx = p from e).symm)), h.fr.trans (hf.toBelow h.fr.size (fun k e => by have : k = p := e; have := h.hp; omega)), h.tabs.one (by have := h.hp; have := h.h8; omega) hf, h.h8, h.h0, h.hx, h.hp, h.ne, h.ne1, h.ne2⟩
theorem PSt.set {w wr : World} {p b0 bx : Nat} {r : Rd} {cs : Array Value} (h : PSt w wr p b0 bx r cs) (i : Nat) (v : Value) : PSt w (wr.setCell ⟨bx, i, none⟩ v) p b0 bx r (cs.setIfInBounds i v) :=
  ⟨h.rd.far h.x (by decide) (by decide) i v, h.z.far (p := ⟨bx, i, none⟩) h.ne _, h.x.set_ i v, h.fr.setCell (p := ⟨bx, i, none⟩) h.hx _, h.tabs.fr ((Fr.refl (One bx) wr).one i v) (fun b hb e => by have : b = bx := e; have := h.hx; have := h.h8; omega), h.h8, h.h0, h.hx, h.hp, h.ne, h.ne1, h.ne2⟩
theorem PSt.bad {w wr : World} {p b0 bx : Nat} {r : Rd} {cs : Array Value} (h : PSt w wr p b0 bx r cs) (b : Bool) : PSt w (wr.setCell ⟨p, 1, none⟩ (.bool b)) p b0 bx (r.1, b) cs :=
  h.step (h.rd.bad b) ((Fr.refl _ _).one 1 _)
theorem PSt.h8p {w wr : World} {p b0 bx : Nat} {r : Rd} {cs : Array Value} (h : PSt w wr p b0 bx r cs) : 8 ≤ p := by have := h.hp; have := h.h8; omega
theorem PSt.fr_ {w wr w2 : World} {p b0 bx : Nat} {r : Rd} {cs : Array Value} {F : Nat → Prop} (h : PSt w wr p b0 bx r cs) (hf : Fr F wr w2) (hF : ∀ k t cs, Blk wr k t cs → t ≠ 3 → ¬ F k) (hlow : ∀ k, F k → w.heap.size ≤ k) : PSt w w2 p b0 bx r cs := by
  obtain ⟨A, hb, hw, hl⟩ := h.rd
  exact ⟨⟨A, hb.fr hf (hF _ _ _ hb (by decide)), hw.fr hf (fun b cs hb => hF _ _ _ hb (by decide)), hl⟩, h.z.fr hf (hF _ _ _ h.z (by decide)), h.x.fr hf (hF _ _ _ h.x (by decide)), h.fr.trans (hf.toBelow h.fr.size hlow), h.tabs.fr hf (fun b hb e => by have := hlow b e; have := h.h8; omega), h.h8, h.h0, h.hx, h.hp, h.ne, h.ne1, h.ne2⟩
theorem PSt.drew {w wr : World} {p b0 bx : Nat} {r : Rd} {cs : Array Value} (h : PSt w wr p b0 bx r cs) : PSt w wr.drew p b0 bx r cs := h.fr_ (F := Nope) ((Fr.refl _ _).drew) (fun _ _ _ _ _ h => h.elim) (fun _ h => h.elim)
theorem PSt.alloc {w wr : World} {p b0 bx : Nat} {r : Rd} {cs : Array Value} (h : PSt w wr p b0 bx r cs) (o : Obj) : PSt w (wr.alloc o) p b0 bx r cs := h.fr_ (F := Nope) ((Fr.refl _ _).alloc o) (fun _ _ _ _ _ h => h.elim) (fun _ h => h.elim)
theorem PSt.grown {w wr w2 : World} {p b0 bx : Nat} {r : Rd} {cs : Array Value} {v : Value} {n : Nat} {xs : List Value} (h : PSt w wr p b0 bx r cs) (ho : wr.ownsRow w.heap.size 3 1 v n xs) (hg : wr.grownBy w2 v.ownBlock) : PSt w w2 p b0 bx r cs :=
  h.fr_ (F := fun k => v.ownBlock = some k) ((Fr.refl _ _).grown hg (fun k hk => .inl hk)) (fun k t cs hb ht e => own_blk_ne ho hb (fun e2 => ht e2.symm) e) (fun k hk => own_row_ge ho k hk)
/-- The result laid into the result's cells. -/
abbrev lay9 (wr : World) (b0 : Nat) (a b c d e f g i j : Value) : World := ((((((((wr.setCell ⟨b0, 0, none⟩ a).setCell ⟨b0, 1, none⟩ b).setCell ⟨b0, 2, none⟩ c).setCell ⟨b0, 3, none⟩ d).setCell ⟨b0, 4, none⟩ e).setCell ⟨b0, 5, none⟩ f).setCell ⟨b0, 6, none⟩ g).setCell ⟨b0, 7, none⟩ i).setCell ⟨b0, 8, none⟩ j
theorem PSt.lay {w wr : World} {p b0 bx : Nat} {r : Rd} {cs : Array Value} (h : PSt w wr p b0 bx r cs) (a b c d e f g i j : Value) :
    Blk (lay9 wr b0 a b c d e f g i j) b0 60 #[a, b, c, d, e, f, g, i, j] ∧ Below w.heap.size w (lay9 wr b0 a b c d e f g i j) ∧ Fr (One b0) wr (lay9 wr b0 a b c d e f g i j) := by
  have z1 : Blk _ b0 60 #[a, .int .i64 0, .bool false, .int .i64 0, .slice none 0 0, .int .i64 0, .int .i64 0, .int .i64 0, .string ⟨#[]⟩] := h.z.set_ 0 a
  have z2 : Blk _ b0 60 #[a, b, .bool false, .int .i64 0, .slice none 0 0, .int .i64 0, .int .i64 0, .int .i64 0, .string ⟨#[]⟩] := z1.set_ 1 b
  have z3 : Blk _ b0 60 #[a, b, c, .int .i64 0, .slice none 0 0, .int .i64 0, .int .i64 0, .int .i64 0, .string ⟨#[]⟩] := z2.set_ 2 c
  have z4 : Blk _ b0 60 #[a, b, c, d, .slice none 0 0, .int .i64 0, .int .i64 0, .int .i64 0, .string ⟨#[]⟩] := z3.set_ 3 d
  have z5 : Blk _ b0 60 #[a, b, c, d, e, .int .i64 0, .int .i64 0, .int .i64 0, .string ⟨#[]⟩] := z4.set_ 4 e
  have z6 : Blk _ b0 60 #[a, b, c, d, e, f, .int .i64 0, .int .i64 0, .string ⟨#[]⟩] := z5.set_ 5 f
  have z7 : Blk _ b0 60 #[a, b, c, d, e, f, g, .int .i64 0, .string ⟨#[]⟩] := z6.set_ 6 g
  have z8 : Blk _ b0 60 #[a, b, c, d, e, f, g, i, .string ⟨#[]⟩] := z7.set_ 7 i
  have z9 : Blk _ b0 60 #[a, b, c, d, e, f, g, i, j] := z8.set_ 8 j
  have hf : Fr (One b0) wr (lay9 wr b0 a b c d e f g i j) := (((((((((Fr.refl (One b0) wr).one 0 a).one 1 b).one 2 c).one 3 d).one 4 e).one 5 f).one 6 g).one 7 i).one 8 j
  exact ⟨z9, h.fr.trans (hf.toBelow h.fr.size (fun k e => by have : k = b0 := e; have := h.h0; omega)), hf⟩
/-- What is at hand of the state. -/
theorem PSt.at_ {w wr : World} {p b0 bx : Nat} {r : Rd} {cs : Array Value} (h : PSt w wr p b0 bx r cs) : (∃ A, wr.cell? ⟨p, 0, none⟩ = some (.slice A r.1.length r.1.length)) ∧ wr.cell? ⟨p, 1, none⟩ = some (.bool r.2) ∧ wr.frozen? ⟨p, 1, none⟩ = false ∧
    (∀ i, wr.cell? ⟨bx, i, none⟩ = cs[i]?) ∧ (∀ i, wr.frozen? ⟨bx, i, none⟩ = false) ∧ (∀ i, wr.frozen? ⟨b0, i, none⟩ = false) ∧
    (wr.cell? ⟨b0, 0, none⟩ = some (.int .i64 0) ∧ wr.cell? ⟨b0, 1, none⟩ = some (.int .i64 0) ∧ wr.cell? ⟨b0, 2, none⟩ = some (.bool false) ∧ wr.cell? ⟨b0, 3, none⟩ = some (.int .i64 0) ∧ wr.cell? ⟨b0, 4, none⟩ = some (.slice none 0 0) ∧
      wr.cell? ⟨b0, 5, none⟩ = some (.int .i64 0) ∧ wr.cell? ⟨b0, 6, none⟩ = some (.int .i64 0) ∧ wr.cell? ⟨b0, 7, none⟩ = some (.int .i64 0) ∧ wr.cell? ⟨b0, 8, none⟩ = some (.string ⟨#[]⟩)) := by
  obtain ⟨A, hb, _⟩ := h.rd
  exact ⟨⟨A, hb.cell 0⟩, hb.cell 1, hb.frozen 1, h.x.cell, h.x.frozen, h.z.frozen, h.z.cell 0, h.z.cell 1, h.z.cell 2, h.z.cell 3, h.z.cell 4, h.z.cell 5, h.z.cell 6, h.z.cell 7, h.z.cell 8⟩

/-- Parse's error. -/
def parE (o : Option StepP) : Int := if o.isSome then 0 else 50

end Go.Proofs.YtbikplckehbcnaaDoor
