/- PlateKeeps in plain words: what a plate, the bytes that are safe, and those that came later have to do with one another. -/
import Derived.Test.YtbikplckehbcnaaPlS
import Derived.Test.YtbikplckehbcnaaFill
set_option linter.unusedVariables false
set_option linter.unusedSimpArgs false
namespace Go.Proofs.Ytbikplckehbcnaa

theorem zeros_fill : PSt.zeros = fillS 0 := by
  unfold PSt.zeros fillS strOfNums
  rw [List.map_replicate]
  rfl

def kAdd (L : Nat → List Int) (n : Nat) (b : Int) : Nat → List Int := fun k => if k = n then L k ++ [b] else L k
/-- What is safe behind a Sync. -/
def kSafe (S : Nat → Int) (L : Nat → List Int) : Nat → Int := fun k => (L k).getLastD (S k)

structure KInv (s : PSt) (S : Nat → Int) (L : Nat → List Int) : Prop where
  cnt : s.count = 40
  sec : ∀ k : Nat, k < 40 → (s.secs (k : Int) = none ∧ S k = 0) ∨ s.secs (k : Int) = some (fillS (S k))
  qin : ∀ x ∈ s.queue, ∃ k : Nat, k < 40 ∧ x.1 = (k : Int) ∧ ∃ b ∈ L k, x.2 = fillS b
  ext : s.down = false → ∀ k : Nat, k < 40 → (s.queue.filter fun x => x.1 == (k : Int)).map (·.2) = (L k).map fillS
  lif : s.down = false → s.life = 0
  lif1 : s.life ≤ 1

theorem KInv.start {s : PSt} (h1 : s.count = 40) (h2 : ∀ n, s.secs n = none) (h3 : s.queue = []) (h4 : s.life = 0) : KInv s (fun _ => 0) (fun _ => []) :=
  ⟨h1, fun k _ => .inl ⟨h2 _, rfl⟩, by rw [h3]; simp, fun _ k _ => by rw [h3]; rfl, fun _ => h4, by omega⟩

section
variable {s : PSt} {S : Nat → Int} {L : Nat → List Int} (h : KInv s S L)
include h

theorem KInv.off : KInv s.off S L ∧ s.off.down = true := by
  unfold PSt.off
  by_cases hd : s.down = true
  · rw [if_pos hd]
    exact ⟨h, hd⟩
  · rw [if_neg hd]
    exact ⟨⟨h.cnt, h.sec, h.qin, fun e => by simp at e, fun e => by simp at e, by have := h.lif (by simpa using hd); simp; omega⟩, rfl⟩

theorem KInv.act : ∃ s' r, s.act = (s', r) ∧ KInv s' S L ∧ s'.queue = s.queue ∧ s'.secs = s.secs ∧ s'.acts = s.acts + 1 ∧ (r = 0 ∧ s'.down = s.down ∨ r = 10 ∧ s'.down = true) := by
  unfold PSt.act
  split
  · split
    · have hk : KInv { s with acts := s.acts + 1, armed := 0 } S L := ⟨h.cnt, h.sec, h.qin, h.ext, h.lif, h.lif1⟩
      exact ⟨_, _, rfl, hk.off.1, by rw [PSt.off_queue], by rw [PSt.off_secs], by rw [PSt.off_acts], .inr ⟨rfl, hk.off.2⟩⟩
    · exact ⟨_, _, rfl, ⟨h.cnt, h.sec, h.qin, h.ext, h.lif, h.lif1⟩, rfl, rfl, rfl, .inl ⟨rfl, rfl⟩⟩
  · exact ⟨_, _, rfl, ⟨h.cnt, h.sec, h.qin, h.ext, h.lif, h.lif1⟩, rfl, rfl, rfl, .inl ⟨rfl, rfl⟩⟩

theorem KInv.rdy (n : Nat) (hn : n < 40) : s.rdy n = if s.down = true then 10 else 0 := by
  unfold PSt.rdy
  split
  · rfl
  · rw [if_neg (by omega), if_neg (by rw [h.cnt]; omega)]

theorem KInv.write (n : Nat) (b : Int) (hn : n < 40) : ∃ s' r, s.write n (fillS b) = (s', r) ∧ KInv s' S (kAdd L n b) ∧ s'.acts ≤ s.acts + 1 ∧ (r = 0 ∧ s'.down = false ∨ r = 10 ∧ s'.down = true) := by
  have hm : ∀ k c, c ∈ L k → c ∈ kAdd L n b k := by
    intro k c hc
    unfold kAdd
    split
    · exact List.mem_append.2 (.inl hc)
    · exact hc
  by_cases hd : s.down = true
  · refine ⟨s, 10, ?_, ⟨h.cnt, h.sec, fun x hx => ?_, fun e => by rw [hd] at e; simp at e, h.lif, h.lif1⟩, by omega, .inr ⟨rfl, hd⟩⟩
    · unfold PSt.write
      rw [h.rdy n hn, if_pos hd, if_pos (by decide)]
    · obtain ⟨k, hk, e, c, hc, e2⟩ := h.qin x hx
      exact ⟨k, hk, e, c, hm k c hc, e2⟩
  · have hd' : s.down = false := by simpa using hd
    have hk : KInv { s with queue := s.queue ++ [((n : Int), fillS b)] } S (kAdd L n b) := by
      refine ⟨h.cnt, h.sec, fun x hx => ?_, fun _ k hk => ?_, h.lif, h.lif1⟩
      · rcases List.mem_append.1 hx with hx | hx
        · obtain ⟨k, hk, e, c, hc, e2⟩ := h.qin x hx
          exact ⟨k, hk, e, c, hm k c hc, e2⟩
        · rw [List.mem_singleton.1 hx]
          exact ⟨n, hn, rfl, b, by simp [kAdd], rfl⟩
      · have he := h.ext hd' k hk
        simp only [List.filter_append, List.map_append, he]
        unfold kAdd
        by_cases e : k = n
        · subst e
          simp
        · rw [if_neg e]
          have : ((n : Int) == (k : Int)) = false := by rw [beq_eq_false_iff_ne]; omega
          simp [List.filter_cons, this]
    obtain ⟨s', r, e, hk', _, _, ha, hr⟩ := hk.act
    refine ⟨s', r, ?_, hk', by rw [ha]; exact Int.le_refl _, ?_⟩
    · unfold PSt.write
      rw [h.rdy n hn, if_neg hd, if_neg (by decide), if_neg (by rw [fillS_size]; omega), e]
    · rcases hr with ⟨h1, h2⟩ | h1
      · exact .inl ⟨h1, by rw [h2]; exact hd'⟩
      · exact .inr h1

omit h in
theorem puts_get (n : Int) : ∀ (q : List (Int × ByteArray)) (f : Int → Option ByteArray), PSt.puts f q n = match ((q.filter fun x => x.1 == n).map (·.2)).getLast? with | none => f n | some t => some t := by
  intro q
  induction q with
  | nil => intro f; rfl
  | cons x q ih =>
    intro f
    have e : PSt.puts f (x :: q) = PSt.puts (PSt.put f x) q := rfl
    rw [e, ih]
    by_cases e : x.1 = n
    · have e1 : (x.1 == n) = true := by rw [beq_iff_eq]; exact e
      simp only [List.filter_cons, e1, if_true, List.map_cons]
      cases hq : (q.filter fun x => x.1 == n).map (·.2) with
      | nil => simp [PSt.put, e]
      | cons y r => rw [List.getLast?_cons_cons, List.getLast?_eq_some_getLast (List.cons_ne_nil _ _)]
    · have e1 : (x.1 == n) = false := by rw [beq_eq_false_iff_ne]; exact e
      simp only [List.filter_cons, e1, Bool.false_eq_true, if_false]
      cases hq : ((q.filter fun x => x.1 == n).map (·.2)).getLast? with
      | none => show PSt.put f x n = f n; unfold PSt.put; rw [if_neg (fun h => e h.symm)]
      | some y => simp

theorem KInv.sync : ∃ s' r, s.sync = (s', r) ∧ s'.acts ≤ s.acts + 1 ∧ (r = 0 ∧ KInv s' (kSafe S L) (fun _ => []) ∨ r = 10 ∧ KInv s' S L) := by
  by_cases hd : s.down = true
  · refine ⟨s, 10, ?_, by omega, .inr ⟨rfl, h⟩⟩
    unfold PSt.sync
    rw [show s.rdy 0 = 10 by rw [show (0 : Int) = ((0 : Nat) : Int) from rfl, h.rdy 0 (by omega), if_pos hd], if_pos (by decide)]
  · have hd' : s.down = false := by simpa using hd
    have hr0 : s.rdy 0 = 0 := by rw [show (0 : Int) = ((0 : Nat) : Int) from rfl, h.rdy 0 (by omega), if_neg hd]; rfl
    obtain ⟨s1, r, e, hk', hq, hs, ha, hr⟩ := h.act
    rcases hr with ⟨rfl, h2⟩ | ⟨rfl, h2⟩
    · refine ⟨{ s1 with secs := PSt.puts s.secs s.queue, queue := [] }, 0, ?_, by simp [ha], .inl ⟨rfl, ⟨hk'.cnt, fun k hk => ?_, by simp, fun _ k _ => rfl, hk'.lif, hk'.lif1⟩⟩⟩
      · unfold PSt.sync
        rw [hr0, e]
        rfl
      · simp only
        rw [puts_get, h.ext hd' k hk, List.getLast?_map]
        unfold kSafe
        cases hl : (L k).getLast? with
        | none =>
          have : L k = [] := by simpa using hl
          rw [this]
          simpa using h.sec k hk
        | some b =>
          right
          rw [List.getLastD_eq_getLast?, hl]
          rfl
    · refine ⟨s1, 10, ?_, by rw [ha]; exact Int.le_refl _, .inr ⟨rfl, hk'⟩⟩
      unfold PSt.sync
      rw [hr0, e]
      rfl

omit h in
theorem onto_get (l : List Int) (n : Int) : ∀ (q : List (Int × ByteArray)) (f : Int → Option ByteArray) (i : Nat), PSt.onto l f i q n = f n ∨ ∃ x ∈ q, x.1 = n ∧ (PSt.onto l f i q n = some x.2 ∨ PSt.onto l f i q n = some ByteArray.empty) := by
  intro q
  induction q with
  | nil => intro f i; exact .inl rfl
  | cons x q ih =>
    intro f i
    simp only [PSt.onto]
    rcases ih (PSt.fated f l i x) (i + 1) with h1 | ⟨y, hy, e, h1⟩
    · rw [h1]
      unfold PSt.fated
      split
      · unfold PSt.put
        by_cases e : n = x.1
        · rw [if_pos e]
          exact .inr ⟨x, by simp, e.symm, .inl rfl⟩
        · rw [if_neg e]
          exact .inl rfl
      · split
        · unfold PSt.put
          by_cases e : n = x.1
          · rw [if_pos e]
            exact .inr ⟨x, by simp, e.symm, .inr rfl⟩
          · rw [if_neg e]
            exact .inl rfl
        · exact .inl rfl
    · exact .inr ⟨y, List.mem_cons_of_mem _ hy, e, h1⟩

/-- What a sector reads as in the end. -/
theorem KInv.on (l : List Int) (hd : s.down = true) : (s.on l).queue = [] ∧ (s.on l).acts = s.acts ∧ ∀ k : Nat, k < 40 → ∃ t e, (s.on l).read k = (t, e) ∧
    ((e = 0 ∧ t = fillS (S k)) ∨ (e = 0 ∧ ∃ b ∈ L k, t = fillS b) ∨ (e = 20 ∧ L k ≠ [])) := by
  have hs : s.on l = { s with down := false, secs := PSt.onto l s.secs 0 s.queue, queue := [] } := by unfold PSt.on; rw [if_pos hd]
  rw [hs]
  refine ⟨rfl, rfl, fun k hk => ?_⟩
  have hr : ({ s with down := false, secs := PSt.onto l s.secs 0 s.queue, queue := [] } : PSt).read k = (match PSt.onto l s.secs 0 s.queue k with | none => (PSt.zeros, 0) | some t => if t.size = 0 then (ByteArray.empty, 20) else (t, 0)) := by
    unfold PSt.read
    have : ({ s with down := false, secs := PSt.onto l s.secs 0 s.queue, queue := [] } : PSt).rdy k = 0 := by
      unfold PSt.rdy
      rw [if_neg (by simp), if_neg (by omega), if_neg (by simp only [h.cnt]; omega)]
    rw [this]
    rfl
  rw [hr]
  rcases onto_get l k s.queue s.secs 0 with h1 | ⟨x, hx, ex, h1⟩
  · rw [h1]
    rcases h.sec k hk with ⟨h2, h3⟩ | h2
    · rw [h2]
      exact ⟨_, _, rfl, .inl ⟨rfl, by rw [h3]; exact zeros_fill⟩⟩
    · rw [h2]
      simp only
      rw [if_neg (by rw [fillS_size]; omega)]
      exact ⟨_, _, rfl, .inl ⟨rfl, rfl⟩⟩
  · obtain ⟨k', hk', e', b, hb, e2⟩ := h.qin x hx
    have : k' = k := by omega
    subst this
    rcases h1 with h1 | h1
    · rw [h1, e2]
      simp only
      rw [if_neg (by rw [fillS_size]; omega)]
      exact ⟨_, _, rfl, .inr (.inl ⟨rfl, b, hb, rfl⟩)⟩
    · rw [h1]
      refine ⟨_, _, rfl, .inr (.inr ⟨rfl, fun e => by rw [e] at hb; simp at hb⟩)⟩
end

/-- Whether what was read is one of those that may be: the law's own test. -/
def isA (t : ByteArray) (e : Int) (S : Int) (l : List Int) : Bool := (e == 0 && (t.toList == (fillS S).toList)) || l.any fun b => e == 20 || (e == 0 && (t.toList == (fillS b).toList))
theorem isA_true {t : ByteArray} {e S : Int} {l : List Int} (h : (e = 0 ∧ t = fillS S) ∨ (e = 0 ∧ ∃ b ∈ l, t = fillS b) ∨ (e = 20 ∧ l ≠ [])) : isA t e S l = true := by
  unfold isA
  rcases h with ⟨rfl, rfl⟩ | ⟨rfl, b, hb, rfl⟩ | ⟨rfl, hl⟩
  · simp
  · simp only [Bool.or_eq_true, List.any_eq_true]
    exact .inr ⟨b, hb, by simp⟩
  · simp only [Bool.or_eq_true, List.any_eq_true]
    obtain ⟨b, hb⟩ := List.exists_mem_of_ne_nil _ hl
    exact .inr ⟨b, hb, by simp⟩
theorem isA_nil (t : ByteArray) (e S : Int) : isA t e S [] = (e == 0 && (t.toList == (fillS S).toList)) := by simp [isA]
theorem isA_snoc (t : ByteArray) (e S : Int) (l : List Int) (b : Int) : isA t e S (l ++ [b]) = (isA t e S l || (e == 20 || (e == 0 && (t.toList == (fillS b).toList)))) := by simp [isA, Bool.or_assoc]

end Go.Proofs.Ytbikplckehbcnaa
