/- What Write comes to while the power is on: plain. -/
import Derived.Test.YtbikplckehbcnaaDoorAwT
set_option linter.unusedVariables false
set_option linter.unusedSimpArgs false
namespace Go.Proofs.YtbikplckehbcnaaDoor
open Go Go.RowKit

/-- The power is on, and nothing is armed. -/
structure Calm (s : PSt) : Prop where
  up : s.down = false
  un : s.armed = 0

theorem calm_write {s : PSt} (h : Calm s) {n : Int} {t : ByteArray} (h0 : 0 ≤ n) (h1 : n < s.count) (ht : t.size = 256) :
    s.write n t = ({ s with queue := s.queue ++ [(n, t)], acts := s.acts + 1 }, 0) := by
  have e1 : ¬ n < 0 := by omega
  have e2 : ¬ s.count ≤ n := by omega
  simp [PSt.write, PSt.rdy, PSt.act, h.up, h.un, ht, e1, e2]
theorem calm_sync {s : PSt} (h : Calm s) (hc : 1 ≤ s.count) : s.sync = ({ s with secs := PSt.puts s.secs s.queue, queue := [], acts := s.acts + 1 }, 0) := by
  have e2 : ¬ s.count ≤ 0 := by omega
  simp [PSt.sync, PSt.rdy, PSt.act, h.up, h.un, e2]
theorem calm_layW : ∀ (l : List (Int × ByteArray)) (s : PSt), Calm s → (∀ x ∈ l, 0 ≤ x.1 ∧ x.1 < s.count ∧ x.2.size = 256) → layW s l = ({ s with queue := s.queue ++ l, acts := s.acts + l.length }, 0) := by
  intro l
  induction l with
  | nil => intro s _ _; simp [layW]
  | cons x l ih =>
    intro s hs hl
    obtain ⟨a, b, c⟩ := hl x (by simp)
    simp only [layW, calm_write hs a b c, if_true]
    rw [ih { s with queue := s.queue ++ [(x.1, x.2)], acts := s.acts + 1 } ⟨hs.up, hs.un⟩ (fun y hy => hl y (by simp [hy]))]
    simp
    omega
theorem calm_layS {s : PSt} (l : List (Int × ByteArray)) (h : Calm s) (hc : 1 ≤ s.count) (hl : ∀ x ∈ l, 0 ≤ x.1 ∧ x.1 < s.count ∧ x.2.size = 256) :
    layS s l = ({ s with secs := PSt.puts s.secs (s.queue ++ l), queue := [], acts := s.acts + l.length + 1 }, 0) := by
  unfold layS
  rw [calm_layW l s h hl]
  simp only [if_true]
  rw [calm_sync (s := { s with queue := s.queue ++ l, acts := s.acts + l.length }) ⟨h.up, h.un⟩ hc]
theorem wr1_mem {frm : Nat} {ls : List LfM} {x : Int × ByteArray} (hx : x ∈ wr1 frm ls) : ∃ i m, ls[i]? = some m ∧ x = (((frm + i : Nat) : Int), sectS m.n m.l m.xs) := by
  unfold wr1 at hx
  obtain ⟨i, hi, e⟩ := List.mem_mapIdx.1 hx
  exact ⟨i, ls[i], List.getElem?_eq_getElem hi, e.symm⟩
theorem wr1_length (frm : Nat) (ls : List LfM) : (wr1 frm ls).length = ls.length := by simp [wr1]
theorem wr2_mem {frm tw : Nat} {ls : List LfM} {x : Int × ByteArray} (hx : x ∈ wr2 frm tw ls) : ∃ m ∈ ls, x = ((frm : Int) + (tw : Int) + m.n, sectS m.n m.l m.xs) := by
  unfold wr2 at hx
  obtain ⟨m, hm, e⟩ := List.mem_map.1 hx
  exact ⟨m, hm, e.symm⟩
theorem wr2_length (frm tw : Nat) (ls : List LfM) : (wr2 frm tw ls).length = ls.length := by simp [wr2]
theorem fitsP_mem {np : Nat} {ls : List LfM} (h : fitsP np ls = true) : (∀ m ∈ ls, 0 ≤ m.n ∧ m.n < (np : Int) ∧ goodP m.l m.xs = true) ∧ (ls.map (·.n)).Nodup := by
  unfold fitsP at h
  simp only [Bool.and_eq_true, decide_eq_true_eq, List.all_eq_true] at h
  exact ⟨fun m hm => by obtain ⟨⟨a, b⟩, c⟩ := h.1 m hm; exact ⟨a, b, c⟩, h.2⟩

/-- Write, while the power is on: refused, or laid. -/
theorem calm_twWrite {s : PSt} {life : Int} {frm tw : Nat} {pgs : List (Int × List Slt)} {ls : List LfM} (h : Calm s) (hl : s.life = life) (hc : (frm : Int) + tw + pgs.length ≤ s.count) (htw : 1 ≤ frm + tw + pgs.length) :
    ((fitsP pgs.length ls = false ∨ tw < ls.length) ∧ twWrite false s life frm tw pgs ls = (false, s, pgs, 1)) ∨
    (fitsP pgs.length ls = true ∧ ls.length ≤ tw ∧ ∃ s', twWrite false s life frm tw pgs ls = (false, s', laidP pgs ls, 0) ∧ Calm s' ∧ s'.life = s.life ∧ s'.count = s.count ∧ s.acts ≤ s'.acts ∧ s'.acts ≤ s.acts + 2 * ls.length + 2) := by
  have hr : tRdy false s life = 0 := by unfold tRdy; rw [if_neg]; simp [h.up, hl]
  by_cases hf : fitsP pgs.length ls = false ∨ tw < ls.length
  · exact .inl ⟨hf, by unfold twWrite; rw [hr, if_neg (by simp), if_pos hf]⟩
  · obtain ⟨h1, h2⟩ := not_or.1 hf
    have h1 : fitsP pgs.length ls = true := by simpa using h1
    obtain ⟨g1, g2⟩ := fitsP_mem h1
    refine .inr ⟨h1, by omega, ?_⟩
    by_cases hz : ls.length = 0
    · refine ⟨s, ?_, h, rfl, rfl, by omega, by omega⟩
      unfold twWrite
      rw [hr, if_neg (by simp), if_neg hf, if_pos hz]
      obtain rfl := List.length_eq_zero_iff.1 hz
      rfl
    · have hA : ∀ x ∈ wr1 frm ls, 0 ≤ x.1 ∧ x.1 < s.count ∧ x.2.size = 256 := by
        intro x hx
        obtain ⟨i, m, hm, rfl⟩ := wr1_mem hx
        have hi := (List.getElem?_eq_some_iff.1 hm).1
        exact ⟨by show (0 : Int) ≤ ((frm + i : Nat) : Int); omega, by show ((frm + i : Nat) : Int) < _; omega, sectS_size (goodP_iff.1 (g1 m (List.mem_of_getElem? hm)).2.2)⟩
      have hB : ∀ x ∈ wr2 frm tw ls, 0 ≤ x.1 ∧ x.1 < s.count ∧ x.2.size = 256 := by
        intro x hx
        obtain ⟨m, hm, rfl⟩ := wr2_mem hx
        obtain ⟨a, b, c⟩ := g1 m hm
        exact ⟨by show (0 : Int) ≤ (frm : Int) + (tw : Int) + m.n; omega, by show (frm : Int) + (tw : Int) + m.n < _; omega, sectS_size (goodP_iff.1 c)⟩
      have e1 := calm_layS (wr1 frm ls) h (by omega) hA
      have e2 := calm_layS (s := (layS s (wr1 frm ls)).1) (wr2 frm tw ls) (by rw [e1]; exact ⟨h.up, h.un⟩) (by rw [e1]; show (1 : Int) ≤ s.count; omega) (by rw [e1]; exact hB)
      refine ⟨(layS (layS s (wr1 frm ls)).1 (wr2 frm tw ls)).1, ?_, ?_, ?_, ?_, ?_, ?_⟩
      · unfold twWrite
        rw [hr, if_neg (by simp), if_neg hf, if_neg hz, if_neg (by rw [e1]; simp), if_neg (by rw [e2]; simp)]
      all_goals rw [e2, e1]
      · exact ⟨h.up, h.un⟩
      · simp; omega
      · simp [wr1_length, wr2_length]; omega

theorem laidP_length (pgs : List (Int × List Slt)) (ls : List LfM) : (laidP pgs ls).length = pgs.length := by
  unfold laidP
  induction ls generalizing pgs with
  | nil => rfl
  | cons m ls ih => rw [List.foldl_cons, ih, List.length_set]
theorem laidP_other (pgs : List (Int × List Slt)) (ls : List LfM) (k : Nat) (h : ∀ m ∈ ls, m.n.toNat ≠ k) : (laidP pgs ls)[k]? = pgs[k]? := by
  unfold laidP
  induction ls generalizing pgs with
  | nil => rfl
  | cons m ls ih =>
    rw [List.foldl_cons, ih _ (fun x hx => h x (by simp [hx])), List.getElem?_set_ne]
    exact h m (by simp)
theorem laidP_get {pgs : List (Int × List Slt)} {ls : List LfM} (hf : fitsP pgs.length ls = true) {j : Nat} {m : LfM} (hm : ls[j]? = some m) : (laidP pgs ls)[m.n.toNat]? = some (m.l, m.xs) := by
  obtain ⟨g1, g2⟩ := fitsP_mem hf
  have hs := split_at hm
  have hmm := g1 m (List.mem_of_getElem? hm)
  rw [hs] at g2
  rw [hs]
  unfold laidP
  rw [List.foldl_append, List.foldl_cons]
  have := laidP_other ((List.foldl (fun a m => a.set m.n.toNat (m.l, m.xs)) pgs (List.take j ls)).set m.n.toNat (m.l, m.xs)) (ls.drop (j + 1)) m.n.toNat (fun x hx e => by
    rw [List.map_append, List.map_cons, List.nodup_append] at g2
    have h2 := (List.nodup_cons.1 g2.2.1).1
    have hx0 := g1 x (List.mem_of_mem_drop hx)
    refine h2 (List.mem_map.2 ⟨x, hx, ?_⟩)
    omega)
  unfold laidP at this
  rw [this, List.getElem?_set_self]
  have := laidP_length pgs (List.take j ls)
  unfold laidP at this
  rw [this]
  omega
theorem fitsP_two (np : Nat) (m : LfM) : fitsP np [m, m] = false := by
  unfold fitsP
  rw [Bool.and_eq_false_iff]
  right
  simp

def trA : PSt := ⟨16, fun _ => none, [], false, 0, 0, 0⟩
def trB : PSt := ⟨16, PSt.put (PSt.put (fun _ => none) (0, sectS 2 1 pgA)) (5, sectS 2 1 pgA), [], false, 4, 0, 0⟩
def pgsB : List (Int × List Slt) := [(0, []), (0, []), (1, pgA), (0, []), (0, [])]
theorem tr0 : PSt.fresh 16 = trA := by unfold PSt.fresh trA; rw [show min (max (16 : Int) 1) 16384 = 16 by decide]
theorem tr1 (A : Option Addr) (c : Nat) : twWrite false trA 0 0 3 (List.replicate 5 (0, [])) [⟨2, 1, A, c, pgA⟩] = (false, trB, pgsB, 0) := by
  have h1 := sizeA 2
  have hg := goodA
  have hf : fitsP 5 [⟨2, 1, A, c, pgA⟩] = true := by simp [fitsP, hg]
  simp only [twWrite, tRdy, trA, List.length_replicate, hf, List.length_singleton]
  simp [wr1, wr2, layS, layW, PSt.write, PSt.rdy, PSt.act, PSt.sync, PSt.puts, h1, trB, laidP, pgsB]
theorem tr3 (n : Nat) (hn : n < 5) : trA.read ((0 + 3 + n : Nat) : Int) = (PSt.zeros, 0) := by
  have h1 : ((0 + 3 + n : Nat) : Int) = 3 + (n : Int) := by omega
  have h2 : ¬ (16 : Int) ≤ 3 + (n : Int) := by omega
  have h3 : ¬ 3 + (n : Int) < 0 := by omega
  rw [h1]
  simp [PSt.read, PSt.rdy, trA, PSt.last, h2, h3]

end Go.Proofs.YtbikplckehbcnaaDoor
