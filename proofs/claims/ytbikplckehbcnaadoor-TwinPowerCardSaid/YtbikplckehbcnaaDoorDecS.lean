/- What slab.Decode finds: plain part. -/
import Derived.Test.YtbikplckehbcnaaDoorClone
set_option linter.unusedVariables false
set_option linter.unusedSimpArgs false
namespace Go.Proofs.YtbikplckehbcnaaDoor
open Go Go.RowKit

/-- A slot as it is read. -/
def ShapeS (x : Slt) : Prop := if x.1 then x.2.size ≤ 254 else x.2.size = 0
theorem shape_of_good {x : Slt} (h : odd x = false) : ShapeS x := by
  unfold ShapeS
  unfold odd at h
  rw [empty_size] at h
  obtain ⟨u, t⟩ := x
  cases u
  · simp only [Bool.not_false, Bool.true_and, Bool.or_eq_false_iff, Bool.not_eq_false', beq_iff_eq] at h
    exact h.1
  · simp only [Bool.not_true, Bool.false_and, Bool.false_or, decide_eq_false_iff_not] at h
    show t.size ≤ 254
    omega
theorem size_zero {t : ByteArray} (h : t.size = 0) : t = ⟨#[]⟩ := by
  cases t
  rename_i d
  congr 1
  exact Array.size_eq_zero_iff.1 h
theorem numsT_inj {t u : ByteArray} (h : numsT t = numsT u) : t = u := by
  have : t.data.toList = u.data.toList := by
    unfold numsT at h
    exact (List.map_inj_right (fun a b hab => UInt8.toNat_inj.1 (Int.ofNat.inj hab))).1 h
  obtain ⟨⟨t⟩⟩ := t
  obtain ⟨⟨u⟩⟩ := u
  simp only at this
  rw [this]
theorem numsT_append (t u : ByteArray) : numsT (t ++ u) = numsT t ++ numsT u := by
  unfold numsT
  rw [ByteArray.data_append, Array.toList_append, List.map_append]

/-- Slots are read in one way alone. -/
theorem parse_unique : ∀ (ys xs : List Slt) (r1 r2 : List Int), (∀ y ∈ ys, ShapeS y) → (∀ x ∈ xs, ShapeS x) → ys.length ≤ xs.length → ys.flatMap slotB ++ r1 = xs.flatMap slotB ++ r2 →
    ys = xs.take ys.length ∧ r1 = (xs.drop ys.length).flatMap slotB ++ r2 := by
  intro ys
  induction ys with
  | nil => intro xs r1 r2 _ _ _ h; exact ⟨rfl, by simpa using h⟩
  | cons y ys ih =>
    intro xs r1 r2 hy hx hl h
    match xs, hl with
    | x :: xs, hl =>
      have sy := hy y (by simp)
      have sx := hx x (by simp)
      simp only [List.flatMap_cons, List.append_assoc] at h
      have hyx : y = x ∧ ys.flatMap slotB ++ r1 = xs.flatMap slotB ++ r2 := by
        obtain ⟨u, t⟩ := y
        obtain ⟨u', t'⟩ := x
        unfold ShapeS at sy sx
        unfold slotB at h
        cases u <;> cases u'
        · simp only [Bool.false_eq_true, if_false, List.cons_append, List.nil_append, List.cons.injEq, true_and] at h sy sx
          exact ⟨by rw [size_zero sy, size_zero sx], h⟩
        · simp only [Bool.false_eq_true, if_false, if_true, List.cons_append, List.nil_append, List.cons.injEq] at h sy sx
          omega
        · simp only [Bool.false_eq_true, if_false, if_true, List.cons_append, List.nil_append, List.cons.injEq] at h sy sx
          omega
        · simp only [if_true, List.cons_append, List.cons.injEq] at h sy sx
          obtain ⟨h1, h2⟩ := h
          have hsz : t.size = t'.size := by omega
          have := List.append_inj h2 (by rw [numsT_length, numsT_length, hsz])
          exact ⟨by rw [numsT_inj this.1], this.2⟩
      obtain ⟨rfl, h2⟩ := hyx
      obtain ⟨e1, e2⟩ := ih xs r1 r2 (fun z hz => hy z (by simp [hz])) (fun z hz => hx z (by simp [hz])) (by simpa using hl) h2
      refine ⟨?_, ?_⟩
      · simp only [List.length_cons, List.take_succ_cons]
        rw [← e1]
      · simpa using e2

/-- The number of bytes. -/
def getN (l : List Int) : Int := l.foldl (fun n b => n * 256 + b) 0
theorem getN_snoc (l : List Int) (b : Int) : getN (l ++ [b]) = getN l * 256 + b := by simp [getN]
theorem getN_aux : ∀ (l : List Int) (n : Int), 0 ≤ n → (∀ b ∈ l, 0 ≤ b ∧ b < 256) → 0 ≤ l.foldl (fun n b => n * 256 + b) n ∧ l.foldl (fun n b => n * 256 + b) n < (n + 1) * 256 ^ l.length := by
  intro l
  induction l with
  | nil => intro n h _; simp; omega
  | cons c l ih =>
    intro n h hb
    obtain ⟨c0, c1⟩ := hb c (by simp)
    obtain ⟨h0, h1⟩ := ih (n * 256 + c) (by omega) (fun b h => hb b (by simp [h]))
    refine ⟨h0, Int.lt_of_lt_of_le h1 ?_⟩
    rw [List.length_cons, Int.pow_succ, Int.mul_comm (256 ^ l.length) 256, ← Int.mul_assoc]
    exact Int.mul_le_mul_of_nonneg_right (by omega) (Int.pow_nonneg (by omega))
theorem getN_bound (l : List Int) (h : ∀ b ∈ l, 0 ≤ b ∧ b < 256) : 0 ≤ getN l ∧ getN l < 256 ^ l.length := by
  have := getN_aux l 0 (by omega) h
  simpa [getN] using this
theorem getN_putB (n : Int) (h0 : 0 ≤ n) (h1 : n < 18446744073709551616) : getN (putB n 8) = n := by
  unfold putB getN byteAt
  simp only [List.range, List.range.loop, List.map, List.foldl, Nat.reduceSub, Nat.reduceMul, Int.reducePow]
  omega

/-- What the bytes of a good page say. -/
theorem encS_nums {l : Int} {xs : List Slt} (h : GoodP l xs) : numsT (encS l xs) = putB l 8 ++ ([((xs.length : Nat) : Int)] ++ (xs.flatMap slotB ++ List.replicate (240 - (encL l xs).length) 0)) := by
  unfold encS
  rw [numsT_str]
  · unfold encL
    simp
  · intro b hb
    rcases List.mem_append.1 hb with hb | hb
    · unfold encL at hb
      rcases List.mem_append.1 hb with hb | hb
      · rcases List.mem_append.1 hb with hb | hb
        · exact putB_range _ _ b hb
        · rw [List.mem_singleton.1 hb]; have := h.n; omega
      · obtain ⟨x, hx, hb⟩ := List.mem_flatMap.1 hb
        have ho := List.any_eq_false.1 h.o x hx
        unfold slotB at hb
        split at hb
        · rcases List.mem_cons.1 hb with rfl | hb
          · simp [odd] at ho; omega
          · exact numsT_range _ b hb
        · rw [List.mem_singleton.1 hb]; omega
    · rw [List.eq_of_mem_replicate hb]; omega

end Go.Proofs.YtbikplckehbcnaaDoor
