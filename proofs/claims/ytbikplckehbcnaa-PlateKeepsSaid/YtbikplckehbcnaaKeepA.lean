/- PlateKeeps in memory: the plate, the bytes that are safe, the rows of those that came later. -/
import Derived.Test.YtbikplckehbcnaaPlV
import Derived.Test.YtbikplckehbcnaaKeepS
set_option linter.unusedVariables false
set_option linter.unusedSimpArgs false
namespace Go.Proofs.Ytbikplckehbcnaa
open Go Go.RowKit

def num8 (l : List Int) : List Value := l.map fun x => .int .u8 x
def safeC (S : Nat → Int) : Array Value := ((List.range 40).map fun j => Value.int .u8 (S j)).toArray
def latC (V : Nat → Value) : Array Value := ((List.range 40).map V).toArray
theorem safeC_get (S : Nat → Int) (j : Nat) (hj : j < 40) : (safeC S)[j]? = some (.int .u8 (S j)) := by simp [safeC, hj]
theorem latC_get (V : Nat → Value) (j : Nat) (hj : j < 40) : (latC V)[j]? = some (V j) := by simp [latC, hj]
theorem safeC_set (S : Nat → Int) (n : Nat) (b : Int) : (safeC S).setIfInBounds n (.int .u8 b) = safeC (fun k => if k = n then b else S k) := by
  apply Array.ext
  · simp [safeC]
  · intro i h1 h2
    have hi : i < 40 := by simpa [safeC] using h2
    rw [Array.getElem_setIfInBounds]
    · by_cases e : n = i
      · subst e; simp [safeC]
      · simp [safeC, e]; exact fun h => absurd h.symm e
    · simpa [safeC] using hi
theorem latC_set (V : Nat → Value) (n : Nat) (v : Value) : (latC V).setIfInBounds n v = latC (fun k => if k = n then v else V k) := by
  apply Array.ext
  · simp [latC]
  · intro i h1 h2
    have hi : i < 40 := by simpa [latC] using h2
    rw [Array.getElem_setIfInBounds]
    · by_cases e : n = i
      · subst e; simp [latC]
      · simp [latC, e]; exact fun h => absurd h.symm e
    · simpa [latC] using hi

structure KeepAt (lo : Nat) (w : World) (F : Nat → Prop) (V : Nat → Value) (p gs gl : Nat) (s : PSt) (S : Nat → Int) (L : Nat → List Int) : Prop where
  pl : IsPlate w F p s
  fl : ∀ k, F k → lo ≤ k ∧ k < w.heap.size
  sf : Blk w gs 5 (safeC S)
  lt : Blk w gl 38 (latC V)
  ow : ∀ j, j < 40 → w.ownsRow lo 5 1 (V j) (L j).length (num8 (L j))
  d1 : ∀ i j b, i < 40 → j < 40 → i ≠ j → (V i).ownBlock = some b → (V j).ownBlock ≠ some b
  d2 : ∀ k, F k → k ≠ gs ∧ k ≠ gl ∧ ∀ j, j < 40 → (V j).ownBlock ≠ some k
  d3 : ∀ j, j < 40 → (V j).ownBlock ≠ some gs
  ls : lo ≤ gs
  ll : lo ≤ gl
def Keep (lo : Nat) (w : World) (p gs gl : Nat) (s : PSt) (S : Nat → Int) (L : Nat → List Int) : Prop := ∃ F V, KeepAt lo w F V p gs gl s S L

section
variable {lo : Nat} {w w' : World} {F : Nat → Prop} {V : Nat → Value} {p gs gl : Nat} {s s' : PSt} {S : Nat → Int} {L : Nat → List Int}
theorem Keep.lt (h : Keep lo w p gs gl s S L) : lo ≤ w.heap.size := by
  obtain ⟨F, V, h⟩ := h
  have := h.sf.lt
  have := h.ls
  omega
theorem KeepAt.dgl (h : KeepAt lo w F V p gs gl s S L) : ∀ j, j < 40 → (V j).ownBlock ≠ some gl := fun j hj => own_blk_ne (h.ow j hj) h.lt (by decide)
theorem KeepAt.gsl (h : KeepAt lo w F V p gs gl s S L) : gs ≠ gl := h.sf.ne_ h.lt (by decide)

/-- The plate alone was touched. -/
theorem KeepAt.left (h : KeepAt lo w F V p gs gl s S L) (hL : Left w w' F p s') : Keep lo w' p gs gl s' S L ∧ Below lo w w' := by
  obtain ⟨F', hp, hf, hs⟩ := hL
  have hlo : lo ≤ w.heap.size := by have := h.sf.lt; have := h.ls; omega
  refine ⟨⟨fun k => F' k ∧ k < w'.heap.size, V, hp.shrink, fun k hk => ⟨?_, hk.2⟩, h.sf.fr hf (fun hF => (h.d2 gs hF).1 rfl), h.lt.fr hf (fun hF => (h.d2 gl hF).2.1 rfl), fun j hj => own_fr (h.ow j hj) hf (fun g hg hF => (h.d2 g hF).2.2 j hj hg), h.d1, ?_, h.d3, h.ls, h.ll⟩, hf.toBelow hlo (fun k hk => (h.fl k hk).1)⟩
  · rcases hs k hk.1 with h3 | h3
    · exact (h.fl k h3).1
    · omega
  · intro k hk
    rcases hs k hk.1 with h3 | h3
    · exact h.d2 k h3
    · have h1 := h.sf.lt
      have h2 := h.lt.lt
      refine ⟨by omega, by omega, fun j hj e => ?_⟩
      have := ((h.ow j hj).lt k e).2
      omega
theorem Keep.below (h : Keep lo w p gs gl s S L) (hb : Below w.heap.size w w') : Keep lo w' p gs gl s S L := by
  obtain ⟨F, V, h⟩ := h
  have hf := (Fr.refl Nope w).below hb
  exact ⟨F, V, h.pl.fr hf (fun _ _ h => h), fun k hk => ⟨(h.fl k hk).1, Nat.lt_of_lt_of_le (h.fl k hk).2 hb.size⟩, h.sf.fr hf (fun h => h), h.lt.fr hf (fun h => h), fun j hj => own_fr (h.ow j hj) hf (fun _ _ h => h), h.d1, h.d2, h.d3, h.ls, h.ll⟩
theorem KeepAt.set_safe (h : KeepAt lo w F V p gs gl s S L) (n : Nat) (b : Int) : KeepAt lo (w.setCell ⟨gs, n, none⟩ (.int .u8 b)) F V p gs gl s (fun k => if k = n then b else S k) L := by
  have hf : Fr (One gs) w (w.setCell ⟨gs, n, none⟩ (.int .u8 b)) := (Fr.refl _ w).one n _
  exact ⟨h.pl.fr hf (fun k hk e => (h.d2 k hk).1 e), fun k hk => ⟨(h.fl k hk).1, Nat.lt_of_lt_of_le (h.fl k hk).2 hf.size⟩, by rw [← safeC_set]; exact h.sf.set_ n _, h.lt.fr hf (fun e => h.gsl e.symm), fun j hj => own_fr (h.ow j hj) hf (fun g hg e => h.d3 j hj (by rw [hg, show g = gs from e])), h.d1, h.d2, h.d3, h.ls, h.ll⟩

/-- The row of sector n has grown by one byte. -/
theorem KeepAt.appended {w0 w1 : World} (h : KeepAt lo w F V p gs gl s S L) (hb : Below w.heap.size w w0) {n : Nat} (hn : n < 40) {b : Int} {v : Value} (ho : w1.ownsRow lo 5 1 v (L n ++ [b]).length (num8 (L n ++ [b]))) (hg : w0.grownBy w1 (V n).ownBlock)
    (hat : v.ownBlock = (V n).ownBlock ∨ v.ownBlock = some w0.heap.size) : Keep lo (w1.setCell ⟨gl, n, none⟩ v) p gs gl s S (kAdd L n b) ∧ Below lo w (w1.setCell ⟨gl, n, none⟩ v) := by
  have h0 : KeepAt lo w0 F V p gs gl s S L := by
    have hf := (Fr.refl Nope w).below hb
    exact ⟨h.pl.fr hf (fun _ _ h => h), fun k hk => ⟨(h.fl k hk).1, Nat.lt_of_lt_of_le (h.fl k hk).2 hb.size⟩, h.sf.fr hf (fun h => h), h.lt.fr hf (fun h => h), fun j hj => own_fr (h.ow j hj) hf (fun _ _ h => h), h.d1, h.d2, h.d3, h.ls, h.ll⟩
  have hf : Fr (fun k => (V n).ownBlock = some k) w0 w1 := (Fr.refl _ w0).grown hg (fun k hk => .inl hk)
  have hf2 : Fr (One gl) w1 (w1.setCell ⟨gl, n, none⟩ v) := (Fr.refl _ w1).one n v
  have hvl : v.ownBlock ≠ some gl := by
    rcases hat with e | e
    · rw [e]; exact h0.dgl n hn
    · rw [e]; have := h0.lt.lt; simp; omega
  have hvs : v.ownBlock ≠ some gs := by
    rcases hat with e | e
    · rw [e]; exact h0.d3 n hn
    · rw [e]; have := h0.sf.lt; simp; omega
  have hlo : lo ≤ w0.heap.size := by have := h0.sf.lt; have := h0.ls; omega
  have hvj : ∀ j bk, j < 40 → j ≠ n → (V j).ownBlock = some bk → v.ownBlock ≠ some bk := by
    intro j bk hj hjn hk
    rcases hat with e | e
    · rw [e]; exact fun e2 => h0.d1 j n bk hj hn hjn hk e2
    · rw [e]; have := ((h0.ow j hj).lt bk hk).2; simp; omega
  refine ⟨⟨F, fun k => if k = n then v else V k, ?_, ?_, ?_, ?_, ?_, ?_, ?_, ?_, h.ls, h.ll⟩, ?_⟩
  · exact (h0.pl.fr hf (fun k hk e => (h0.d2 k hk).2.2 n hn e)).fr hf2 (fun k hk e => (h0.d2 k hk).2.1 e)
  · exact fun k hk => ⟨(h0.fl k hk).1, Nat.lt_of_lt_of_le (h0.fl k hk).2 (Nat.le_trans hg.size hf2.size)⟩
  · exact (h0.sf.fr hf (fun e => h0.d3 n hn e)).fr hf2 (fun e => h0.gsl e)
  · rw [← latC_set]
    exact (h0.lt.fr hf (fun e => h0.dgl n hn e)).set_ n v
  · intro j hj
    by_cases e : j = n
    · subst e
      simp only [if_true, kAdd]
      exact own_fr ho hf2 (fun g hg e => hvl (by rw [hg, show g = gl from e]))
    · simp only [if_neg e, kAdd]
      exact own_fr (own_fr (h0.ow j hj) hf (fun g hg e2 => h0.d1 n j g hn hj (fun x => e x.symm) e2 hg)) hf2 (fun g hg e => h0.dgl j hj (by rw [hg, show g = gl from e]))
  · intro i j bk hi hj hij
    by_cases e : i = n
    · subst e
      simp only [if_true]
      rw [if_neg (fun x => hij x.symm)]
      exact fun h1 h2 => hvj j bk hj (fun x => hij x.symm) h2 h1
    · simp only [if_neg e]
      by_cases e2 : j = n
      · subst e2
        simp only [if_true]
        exact fun h1 => hvj i bk hi e h1
      · rw [if_neg e2]
        exact h0.d1 i j bk hi hj hij
  · intro k hk
    have hd := h0.d2 k hk
    refine ⟨hd.1, hd.2.1, fun j hj => ?_⟩
    by_cases e : j = n
    · simp only [e, if_true]
      rcases hat with e2 | e2
      · rw [e2]; exact hd.2.2 n hn
      · rw [e2]; have := (h0.fl k hk).2; simp; omega
    · simp only [if_neg e]
      exact hd.2.2 j hj
  · intro j hj
    by_cases e : j = n
    · simp only [e, if_true]; exact hvs
    · simp only [if_neg e]; exact h0.d3 j hj
  · refine ((hb.mono ?_).trans ((hf.toBelow hlo ?_).trans (hf2.toBelow (Nat.le_trans hlo hg.size) (fun k hk => by rw [show k = gl from hk]; exact h.ll))))
    · have := h.sf.lt; have := h.ls; omega
    · intro k hk
      exact ((h0.ow n hn).lt k hk).1

/-- The list of rows is made anew. -/
theorem Keep.anew (h : Keep lo w p gs gl s S L) (hb : Below w.heap.size w w') (g' : Nat) (hg : w.heap.size ≤ g') (hB : Blk w' g' 38 (latC fun _ => .slice none 0 0)) : Keep lo w' p gs g' s S (fun _ => []) := by
  obtain ⟨F, V, h⟩ := h
  have hf := (Fr.refl Nope w).below hb
  have hlo : lo ≤ w.heap.size := by have := h.sf.lt; have := h.ls; omega
  refine ⟨F, fun _ => .slice none 0 0, h.pl.fr hf (fun _ _ h => h), fun k hk => ⟨(h.fl k hk).1, Nat.lt_of_lt_of_le (h.fl k hk).2 hb.size⟩, h.sf.fr hf (fun h => h), hB, fun j hj => World.ownsRow_nil _ _ _ _, fun i j b _ _ _ e => by simp [Value.ownBlock] at e, fun k hk => ⟨(h.d2 k hk).1, ?_, fun j hj => by simp [Value.ownBlock]⟩, fun j hj => by simp [Value.ownBlock], h.ls, by omega⟩
  have := (h.fl k hk).2
  omega

/-- At the start. -/
theorem Keep.start (hlo : lo ≤ w.heap.size) (hp : PlateLo lo w p s) (hb : Below w.heap.size w w') (g' : Nat) (hg : w.heap.size ≤ gs ∧ w.heap.size ≤ g') (hS : Blk w' gs 5 (safeC S)) (hB : Blk w' g' 38 (latC fun _ => .slice none 0 0)) : Keep lo w' p gs g' s S (fun _ => []) := by
  obtain ⟨F, h1, h2⟩ := hp
  have hf := (Fr.refl Nope w).below hb
  refine ⟨F, fun _ => .slice none 0 0, h1.fr hf (fun _ _ h => h), fun k hk => ⟨(h2 k hk).1, Nat.lt_of_lt_of_le (h2 k hk).2 hb.size⟩, hS, hB, fun j hj => World.ownsRow_nil _ _ _ _, fun i j b _ _ _ e => by simp [Value.ownBlock] at e, fun k hk => ⟨?_, ?_, fun j hj => by simp [Value.ownBlock]⟩, fun j hj => by simp [Value.ownBlock], by omega, by omega⟩
  · have := (h2 k hk).2; omega
  · have := (h2 k hk).2; omega

/-! ### the plate's methods -/
theorem Keep.write (h : Keep lo w p gs gl s S L) (n : Int) (t : ByteArray) (h1 : s.life < 4611686018427387904) (h3 : s.acts < 1099511627776) (ht : t.size ≤ 9223372036854775807) (r : Int) (ev : s.write n t = (s', r)) :
    Calls Try.prog 8 #[.pointer (some ⟨p, 0, none⟩), .int .i64 n, .string t] w fun e w' => e = .returned (.int .i64 r) ∧ Keep lo w' p gs gl s' S L ∧ Below lo w w' := by
  obtain ⟨F, V, h⟩ := h
  refine (write_any w F p s n t h.pl h1 h3 ht).mono ?_
  rw [ev]
  rintro e w' ⟨rfl, hL⟩
  exact ⟨rfl, h.left hL⟩
theorem Keep.sync (h : Keep lo w p gs gl s S L) (h1 : s.life < 4611686018427387904) (h3 : s.acts < 1099511627776) (r : Int) (ev : s.sync = (s', r)) :
    Calls Try.prog 10 #[.pointer (some ⟨p, 0, none⟩)] w fun e w' => e = .returned (.int .i64 r) ∧ Keep lo w' p gs gl s' S L ∧ Below lo w w' := by
  obtain ⟨F, V, h⟩ := h
  refine (sync_any w F p s h.pl h1 h3).mono ?_
  rw [ev]
  rintro e w' ⟨rfl, hL⟩
  exact ⟨rfl, h.left hL⟩
theorem Keep.off (h : Keep lo w p gs gl s S L) (h1 : s.life < 4611686018427387904) :
    Calls Try.prog 11 #[.pointer (some ⟨p, 0, none⟩)] w fun e w' => e = .returned (.tuple #[]) ∧ Keep lo w' p gs gl s.off S L ∧ Below lo w w' := by
  obtain ⟨F, V, h⟩ := h
  refine (off_is w F p s h.pl h1).mono ?_
  rintro e w' ⟨rfl, hL⟩
  exact ⟨rfl, h.left hL⟩
theorem Keep.on (h : Keep lo w p gs gl s S L) (A : Option Addr) (c : Nat) (l : List Int) (h3 : s.acts < 1099511627776) (hl : Ints w (fun k => lo ≤ k) A l) :
    Calls Try.prog 12 #[.pointer (some ⟨p, 0, none⟩), .slice A l.length c] w fun e w' => e = .returned (.tuple #[]) ∧ Keep lo w' p gs gl (s.on l) S L ∧ Below lo w w' := by
  obtain ⟨F, V, h⟩ := h
  have hl' : Ints w F A l := ⟨hl.1, fun hn => by
    obtain ⟨ad, e, hb, hF, hc⟩ := hl.2 hn
    exact ⟨ad, e, hb, fun hF2 => hF (h.fl _ hF2).1, hc⟩⟩
  refine (on_any w F p s A c l h.pl h3 hl').mono ?_
  rintro e w' ⟨rfl, hL⟩
  exact ⟨rfl, h.left hL⟩
theorem Keep.read (h : Keep lo w p gs gl s S L) (n : Int) (t : ByteArray) (r : Int) (ev : s.read n = (t, r)) (h3 : s.acts < 1099511627776) :
    Calls Try.prog 13 #[.pointer (some ⟨p, 0, none⟩), .int .i64 n] w fun e w' => e = .returned (.tuple #[.string t, .int .i64 r]) ∧ Keep lo w' p gs gl s S L ∧ Below lo w w' := by
  have hlt := h.lt
  have h' := h
  obtain ⟨F, V, h⟩ := h
  refine (read_any w F p s n h.pl h3).mono ?_
  rw [ev]
  rintro e w' ⟨rfl, hL⟩
  exact ⟨rfl, h'.below hL, hL.mono hlt⟩
theorem Keep.filled (h : Keep lo w p gs gl s S L) (x : Int) :
    Calls Try.prog 9 #[.int .u8 x] w fun e w' => e = .returned (.string (fillS x)) ∧ Keep lo w' p gs gl s S L ∧ Below lo w w' :=
  (filled_any w x).mono fun e w' ⟨he, hb⟩ => ⟨he, h.below hb, hb.mono h.lt⟩
theorem Keep.waits (h : Keep lo w p gs gl s S L) : Calls Try.prog 15 #[.pointer (some ⟨p, 0, none⟩)] w fun e w' => e = .returned (.int .i64 s.queue.length) ∧ w = w' := by
  obtain ⟨F, V, h⟩ := h
  exact waits_is w F p s h.pl
end

set_option maxRecDepth 100000 in
set_option maxHeartbeats 1000000 in
theorem read_nil (w : World) (n : Int) : Calls Try.prog 13 #[.pointer none, .int .i64 n] w fun e w' => e = .returned (.tuple #[.string ⟨#[]⟩, .int .i64 2]) ∧ Below w.heap.size w w' := by
  refine (callsIn_wide (n := 3)).1 ?_
  refine callsIn_of_wp_marks Try.func13 rfl trivial ?_ rfl
  simp only [Try.ntmps13, List.size_toArray, List.length_cons, List.length_nil, Nat.reduceAdd, Nat.reduceSub, Array.replicate_succ, Array.replicate_zero, List.push_toArray, List.append_toArray, List.nil_append, List.cons_append]
  gi_wp2_with (refine ⟨trivial, ?_⟩; gi_at_call 20; refine (callsIn_wide.2 (ready_nil _ n)).mono ?_; rintro e w' ⟨rfl, rfl⟩)
  have hN := rd_new w n 2 ⟨#[]⟩ _ rfl
  exact ⟨_, rd_results _ _ (w.heap.size + 1) (w.heap.size + 1 + 1) _ _ rfl rfl hN.1 hN.2.1, rfl, hN.2.2⟩

end Go.Proofs.Ytbikplckehbcnaa
