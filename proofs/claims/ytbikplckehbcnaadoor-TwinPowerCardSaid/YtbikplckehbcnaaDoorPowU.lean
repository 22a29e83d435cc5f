/- Wherever the power goes: rows of pages in memory; the plate between two openings. -/
import Derived.Test.YtbikplckehbcnaaDoorLaid
set_option linter.unusedVariables false
set_option linter.unusedSimpArgs false
namespace Go.Proofs.YtbikplckehbcnaaDoor
open Go Go.RowKit

theorem Slots.step {w w' : World} {G G' : Nat → Prop} {A : Option Addr} {xs : List Slt} (h : Slots w G A xs) (hf : Fr G w w') (hs : Sub w G G') : Slots w' G' A xs := fun hn => by
  obtain ⟨b, off, e, hb, hG, hc⟩ := h.fr hf hn
  obtain ⟨b', off', e', hb', _, _⟩ := h hn
  obtain ⟨rfl, rfl⟩ : b = b' ∧ off = off' := by rw [e] at e'; injection e' with e1; injection e1 with e1 e2; exact ⟨e1, e2⟩
  exact ⟨b, off, e, hb, fun hg => by rcases hs b hg with h1 | h1; exact hG h1; omega, hc⟩

/-- A store into a cell that is no slot's. -/
theorem Slots.poke {w : World} {F : Nat → Prop} {A : Option Addr} {xs : List Slt} (h : Slots w F A xs) (p : Addr) (u old : Value) (hc : w.cell? p = some old) (hb : ∀ b, old ≠ .bool b) (hs : ∀ t, old ≠ .string t) : Slots (w.setCell p u) F A xs := fun hn => by
  obtain ⟨b, off, e, hbl, hF, hcl⟩ := h hn
  refine ⟨b, off, e, by simpa [World.setCell] using hbl, hF, fun j x hx => ?_⟩
  obtain ⟨h1, h2, h3⟩ := hcl j x hx
  refine ⟨?_, ?_, h3⟩
  · rw [World.cell?_setCell_other _ _ _ _ (fun e => by rw [e, h1] at hc; exact hb _ (Option.some.inj hc).symm)]; exact h1
  · rw [World.cell?_setCell_other _ _ _ _ (fun e => by rw [e, h2] at hc; exact hs _ (Option.some.inj hc).symm)]; exact h2
/-- A page's two cells are set in a row that is not the store's. -/
theorem StAt.poke {lo : Nat} {w : World} {F : Nat → Prop} {q p : Nat} {pv : Value} {frm tw : Nat} {life : Int} {dead : Bool} {s : PSt} {ps : List PgM} (h : StAt lo w F q p pv frm tw life dead s ps) {g k : Nat} {l l' : Int} {A A' : Option Addr} {n n' c c' : Nat} (hg : ¬ Ows F q pv g)
    (h0 : w.cell? ⟨g, k * 2, none⟩ = some (.int .i64 l)) (h1 : w.cell? ⟨g, k * 2 + 1, none⟩ = some (.slice A n c)) :
    StAt lo ((w.setCell ⟨g, k * 2, none⟩ (.int .i64 l')).setCell ⟨g, k * 2 + 1, none⟩ (.slice A' n' c')) F q p pv frm tw life dead s ps := by
  have hf : Fr (One g) w ((w.setCell ⟨g, k * 2, none⟩ (.int .i64 l')).setCell ⟨g, k * 2 + 1, none⟩ (.slice A' n' c')) := ((Fr.refl _ w).one (k * 2) _).one (k * 2 + 1) _
  have hne : ∀ j, One g j → ¬ Ows F q pv j := fun j hj => by rw [show j = g from hj]; exact hg
  refine ⟨h.st.fr hf (fun e => hne q e (.inr (.inl rfl))), own_fr h.pg hf (fun j hj e => hne j e (.inr (.inr hj))), h.pl.fr hf (fun j hj e => hne j e (.inl hj)), fun j hj => ⟨(h.fl j hj).1, Nat.lt_of_lt_of_le (h.fl j hj).2 hf.size⟩, h.lq, h.dq, h.dv, fun m hm => ⟨(h.sl m hm).1, ?_⟩⟩
  refine ((h.sl m hm).2.poke _ _ _ h0 (fun _ e => by cases e) (fun _ e => by cases e)).poke _ _ (.slice A n c) ?_ (fun _ e => by cases e) (fun _ e => by cases e)
  rw [World.cell?_setCell_other _ _ _ _ (fun e => by injection e with _ e2; omega)]
  exact h1

/-- A row of pages at block g; what lies behind its pages avoids AV. -/
structure Rw (w : World) (AV : Nat → Prop) (g c : Nat) (ps : List PgM) : Prop where
  row : w.ownsRow 0 25 2 (.slice (some ⟨g, 0, none⟩) ps.length c) ps.length (pgCells ps)
  sl : ∀ m ∈ ps, m.xs.length ≤ 255 ∧ Slots w AV m.A m.xs
section
variable {w w' : World} {AV AV' : Nat → Prop} {g c : Nat} {ps : List PgM}
theorem Rw.lt (h : Rw w AV g c ps) : g < w.heap.size := (h.row.lt g rfl).2
theorem Rw.fr (h : Rw w AV g c ps) {F : Nat → Prop} (hf : Fr F w w') (hg : ¬ F g) (hF : ∀ k, F k → AV k) : Rw w' AV g c ps :=
  ⟨own_fr h.row hf (fun k hk => by rw [← Option.some.inj hk]; exact hg), fun m hm => ⟨(h.sl m hm).1, (h.sl m hm).2.fr (hf.mono hF)⟩⟩
theorem Rw.av (h : Rw w AV g c ps) (hA : ∀ k, k < w.heap.size → AV' k → AV k) : Rw w AV' g c ps := ⟨h.row, fun m hm => ⟨(h.sl m hm).1, (h.sl m hm).2.mono hA⟩⟩
theorem Rw.step (h : Rw w AV g c ps) {F : Nat → Prop} (hf : Fr F w w') (hF : ∀ k, F k → AV k) (hg : ¬ F g) (hs : Sub w AV AV') : Rw w' AV' g c ps :=
  ⟨own_fr h.row hf (fun k hk => by rw [← Option.some.inj hk]; exact hg), fun m hm => ⟨(h.sl m hm).1, (h.sl m hm).2.step (hf.mono hF) hs⟩⟩
theorem Rw.below (h : Rw w AV g c ps) (hb : Below w.heap.size w w') : Rw w' AV g c ps :=
  h.fr ((Fr.refl Nope w).below hb) (fun h => h) (fun _ h => h.elim)
theorem Rw.cells (h : Rw w AV g c ps) {k : Nat} {m : PgM} (hk : ps[k]? = some m) : w.cell? ⟨g, k * 2, none⟩ = some (.int .i64 m.l) ∧ w.cell? ⟨g, k * 2 + 1, none⟩ = some (.slice m.A m.xs.length m.c) := by
  obtain ⟨g0, g1⟩ := pgCells_get ps k
  rw [hk] at g0 g1
  have hc0 := h.row.cells (g := g) rfl _ _ g0
  have hc1 := h.row.cells (g := g) rfl _ _ g1
  rw [Addr.add_lit, Nat.zero_add] at hc0 hc1
  exact ⟨hc0, hc1⟩
theorem Rw.frozen (h : Rw w AV g c ps) (j : Nat) : w.frozen? ⟨g, j, none⟩ = false := by
  rcases h.row.2 with ⟨h, _⟩ | ⟨g', cap, cur, h, _, hh, _⟩
  · cases h
  · cases h; exact frozen_of_row w g _ cur _ hh
theorem Rw.set (h : Rw w AV g c ps) (hg : AV g) (k : Nat) (m : PgM) (hm : m.xs.length ≤ 255) (hs : Slots w AV m.A m.xs) : Rw ((w.setCell ⟨g, k * 2, none⟩ (.int .i64 m.l)).setCell ⟨g, k * 2 + 1, none⟩ (.slice m.A m.xs.length m.c)) AV g c (ps.set k m) := by
  have hf : Fr AV w ((w.setCell ⟨g, k * 2, none⟩ (.int .i64 m.l)).setCell ⟨g, k * 2 + 1, none⟩ (.slice m.A m.xs.length m.c)) := ((Fr.refl _ w).set (.inl hg) (k * 2) _).set (.inl hg) (k * 2 + 1) _
  refine ⟨?_, fun m' hm' => ?_⟩
  · rw [pgCells_set, List.length_set]
    exact ((h.row.stored (k * 2) _).1.stored (k * 2 + 1) _).1
  · rcases List.mem_or_eq_of_mem_set hm' with h1 | h1
    · exact ⟨(h.sl m' h1).1, (h.sl m' h1).2.fr hf⟩
    · subst h1
      exact ⟨hm, hs.fr hf⟩
theorem Rw.setFr (h : Rw w AV g c ps) (k : Nat) (u v : Value) : Fr (One g) w ((w.setCell ⟨g, k * 2, none⟩ u).setCell ⟨g, k * 2 + 1, none⟩ v) := ((Fr.refl _ w).one (k * 2) _).one (k * 2 + 1) _
end

theorem Ints.mono' {w : World} {F F' : Nat → Prop} {A : Option Addr} {xs : List Int} (h : Ints w F A xs) (hF : ∀ k, F' k → F k) : Ints w F' A xs :=
  ⟨h.1, fun hn => by obtain ⟨ad, e, hb, hF', hc⟩ := h.2 hn; exact ⟨ad, e, hb, fun hk => hF' (hF _ hk), hc⟩⟩
theorem Left.shr {w w' : World} {F : Nat → Prop} {p : Nat} {s : PSt} (h : Left w w' F p s) : ∃ F', IsPlate w' F' p s ∧ (∀ k, F' k → k < w'.heap.size) ∧ Fr F w w' ∧ Sub w F F' := by
  obtain ⟨F', h1, h2, h3⟩ := h
  exact ⟨_, h1.shrink, fun k hk => hk.2, h2, fun k hk => h3 k hk.1⟩

/-! ### the plate, between two openings -/
structure Mid (s : PSt) (sure next : List Pg) (i : Int) : Prop where
  up : s.down = false
  ar : 0 ≤ s.armed
  cn : s.count = 16
  qu : s.queue = []
  re : Rec s.secs sure next i
theorem Mid.arm {s : PSt} {sure next : List Pg} {i : Int} (h : Mid s sure next i) (n : Int) : Mid (s.arm n) sure next i :=
  ⟨h.up, by unfold PSt.arm; simp only; split <;> omega, h.cn, h.qu, h.re⟩
theorem on_of_down {s : PSt} (hd : s.down = true) (l : List Int) : s.on l = { s with down := false, secs := PSt.onto l s.secs 0 s.queue, queue := [] } := by unfold PSt.on; rw [if_pos hd]
theorem off_of_down {s : PSt} (hd : s.down = true) : s.off = s := by unfold PSt.off; rw [if_pos hd]
theorem off_of_up {s : PSt} (hd : s.down = false) : s.off = { s with down := true, armed := 0, life := s.life + 1 } := by unfold PSt.off; rw [hd]; rfl
/-- The power went in a Write. -/
theorem mid_write {s s' : PSt} {sure next : List Pg} {i : Int} (hw : Went s s' 10) (hc : s.count = 16) (hr : ∀ l, Rec (PSt.onto l s'.secs 0 s'.queue) sure next i) (l : List Int) : Mid (s'.on l) sure next i ∧ (s'.on l).armed = 0 ∧ (s'.on l).life = s.life + 1 ∧ (s'.on l).acts = s'.acts := by
  obtain ⟨a, _, ⟨h, _⟩ | ⟨_, b, c, d, _⟩⟩ := hw
  · cases h
  · rw [on_of_down b]
    exact ⟨⟨rfl, by simp [d], a.trans hc, rfl, hr l⟩, d, c, rfl⟩
/-- Open, Off, On. -/
theorem mid_open {s s' : PSt} {sure next : List Pg} {i : Int} (h : Mid s sure next i) {o : Option (List Pg)} {r : Int} (e : openP s 0 3 5 = (s', o, r)) (l : List Int) :
    Mid ((s'.off).on l) sure next i ∧ ((s'.off).on l).armed = 0 ∧ s.life ≤ ((s'.off).on l).life ∧ ((s'.off).on l).life ≤ s.life + 1 ∧ s.acts ≤ ((s'.off).on l).acts ∧ ((s'.off).on l).acts ≤ s.acts + 6 ∧ s'.life ≤ s.life + 1 ∧ s'.acts ≤ s.acts + 6 ∧ s'.off.life ≤ s.life + 1 ∧ s'.off.acts ≤ s.acts + 6 := by
  rcases open_rec h.re h.up h.ar h.cn h.qu with ⟨s1, e1, hf⟩ | ⟨s1, ps, e1, hw, ha, hq, hi, hps⟩
  · rw [e] at e1
    obtain ⟨rfl, rfl, rfl⟩ : s' = s1 ∧ o = none ∧ r = 10 := by simpa using e1
    rw [off_of_down hf.dn, on_of_down hf.dn]
    have h1 := hf.li
    have h2 := hf.a0
    have h3 := hf.a1
    refine ⟨⟨rfl, by simp [hf.ar], hf.cn.trans h.cn, rfl, ?_⟩, hf.ar, by show s.life ≤ s'.life; omega, by show s'.life ≤ _; omega, h2, h3, by omega, by omega, by omega, by omega⟩
    show Rec (PSt.onto l s'.secs 0 s'.queue) sure next i
    rw [hf.se]
    exact rec_onto l _ _ 0 h.re hf.qu
  · rw [e] at e1
    obtain ⟨rfl, rfl, rfl⟩ : s' = s1 ∧ o = some ps ∧ r = 0 := by simpa using e1
    obtain ⟨u1, u2, u3⟩ := hw.up
    have hl : s'.life = s.life := by obtain ⟨_, _, ⟨_, _, c, _⟩ | ⟨h, _⟩⟩ := hw; exact c; cases h
    have ha2 := hw.2.1
    rw [off_of_up u1]
    rw [on_of_down rfl]
    refine ⟨⟨rfl, by simp, u3.trans h.cn, rfl, ?_⟩, rfl, by show s.life ≤ s'.life + 1; omega, by show s'.life + 1 ≤ _; omega, ha2, ha, by omega, by omega, by show s'.life + 1 ≤ _; omega, ha⟩
    show Rec (PSt.onto l s'.secs 0 s'.queue) sure next i
    rw [hq]
    refine ⟨h.re.ls, h.re.ln, fun n hn => ?_, hi.twins, hi.fu⟩
    obtain ⟨x, a, b⟩ := hi.home n hn
    obtain ⟨y, c, d⟩ := hps n hn
    rw [a] at c
    obtain rfl := Option.some.inj c
    exact .inl ⟨x, d, b⟩
/-- Open, nothing armed: the store. -/
theorem mid_final {s : PSt} {sure next : List Pg} {i : Int} (h : Mid s sure next i) (h0 : s.armed = 0) :
    ∃ s' ps, openP s 0 3 5 = (s', some ps, 0) ∧ s'.down = false ∧ 0 ≤ s'.armed ∧ s'.count = 16 ∧ s'.queue = [] ∧ s'.life = s.life ∧ s.acts ≤ s'.acts ∧ s'.acts ≤ s.acts + 6 ∧ Inv s'.secs ps i ∧ ∀ n < 5, ∃ x, ps[n]? = some x ∧ (sure[n]? = some x ∨ next[n]? = some x) := by
  rcases open_rec h.re h.up h.ar h.cn h.qu with ⟨s1, e1, hf⟩ | ⟨s1, ps, e1, hw, ha, hq, hi, hps⟩
  · exact absurd h0 hf.un
  · obtain ⟨u1, u2, u3⟩ := hw.up
    have hl : s1.life = s.life := by obtain ⟨_, _, ⟨_, _, c, _⟩ | ⟨h, _⟩⟩ := hw; exact c; cases h
    exact ⟨s1, ps, e1, u1, u2, u3.trans h.cn, hq, hl, hw.2.1, ha, hi, hps⟩
/-- Behind a Write that was answered OK: the power goes and is back. -/
theorem mid_calm {s : PSt} {sure : List Pg} {i : Int} (hi : Inv s.secs sure i) (hd : s.down = false) (hc : s.count = 16) (hq : s.queue = []) : Mid ((s.off).on []) sure sure i ∧ ((s.off).on []).armed = 0 ∧ ((s.off).on []).life = s.life + 1 ∧ ((s.off).on []).acts = s.acts := by
  rw [off_of_up hd, on_of_down rfl]
  refine ⟨⟨rfl, by simp, hc, rfl, ?_⟩, rfl, rfl, rfl⟩
  show Rec (PSt.onto [] s.secs 0 s.queue) sure sure i
  rw [hq]
  exact hi.rec_ hi.ln

end Go.Proofs.YtbikplckehbcnaaDoor
