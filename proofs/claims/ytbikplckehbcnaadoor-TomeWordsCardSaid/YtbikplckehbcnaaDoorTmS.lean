/- Tome, the plain law: words, numbers, lines, steps. -/
import Derived.Lib.AtoiAllCases
import Derived.Lib.ItoaNum
import Derived.Lib.SplitLaws
import Derived.Lib.Fields
import Derived.Lib.Join
set_option linter.unusedVariables false
set_option linter.unusedSimpArgs false
namespace Go.Proofs.YtbikplckehbcnaaDoor
open Go

abbrev Bs := List UInt8
def ba (l : Bs) : ByteArray := ⟨l.toArray⟩
theorem ba_list (l : Bs) : (ba l).data.toList = l := rfl
theorem ba_of (s : ByteArray) : ba s.data.toList = s := rfl
theorem ba_size (l : Bs) : (ba l).size = l.length := rfl
theorem ba_inj {a b : Bs} (h : ba a = ba b) : a = b := congrArg (fun s : ByteArray => s.data.toList) h

/-! ### A text as a word -/
def plainB (c : UInt8) : Bool := decide (32 < c) && decide (c ≤ 126) && c != 37
def hexD (n : UInt8) : UInt8 := if n < 10 then 48 + n else 55 + n
def encB (c : UInt8) : Bs := if plainB c then [c] else [37, hexD (c >>> 4), hexD (c &&& 15)]
def wordP (s : Bs) : Bs := if s.isEmpty then [37] else s.flatMap encB
/-- The value of a digit of base 16, a great one. -/
def hexU (c : UInt8) : Option UInt8 := if 48 ≤ c && c ≤ 57 then some (c - 48) else if 65 ≤ c && c ≤ 70 then some (c - 55) else none
def decW : Bs → Option Bs
  | [] => some []
  | [c] => if c = 37 then none else some [c]
  | [c, d] => if c = 37 then none else (decW [d]).map (c :: ·)
  | c :: a :: b :: r => if c = 37 then (match hexU a, hexU b with
      | some x, some y => (decW r).map ((16 * x + y) :: ·)
      | _, _ => none) else (decW (a :: b :: r)).map (c :: ·)
def textP (w : Bs) : Option Bs := if w == [37] then some [] else match decW w with
  | some s => if wordP s == w then some s else none
  | none => none

theorem enc_one (c : UInt8) (h : plainB c = true) : encB c = [c] := by simp [encB, h]
theorem enc_three (c : UInt8) (h : plainB c = false) : encB c = [37, hexD (c >>> 4), hexD (c &&& 15)] := by simp [encB, h]
theorem byte_all {p : UInt8 → Prop} (h : ∀ i : Fin 256, p (UInt8.ofNat i.val)) (c : UInt8) : p c := by
  have := h ⟨c.toNat, c.toNat_lt⟩
  simpa using this
theorem plain_ne (c : UInt8) (h : plainB c = true) : c ≠ 37 := by
  rintro rfl
  revert h
  decide
theorem hex_back : ∀ c : UInt8, hexU (hexD (c >>> 4)) = some (c >>> 4) ∧ hexU (hexD (c &&& 15)) = some (c &&& 15) ∧ (16 : UInt8) * (c >>> 4) + (c &&& 15) = c := byte_all (by decide +kernel)
theorem enc_pos (c : UInt8) : encB c ≠ [] := by
  unfold encB; split <;> simp
theorem decW_skip (c : UInt8) (r : Bs) (h : c ≠ 37) : decW (c :: r) = (decW r).map (c :: ·) := by
  match r with
  | [] => simp [decW, h]
  | [d] => simp [decW, h]
  | a :: b :: r => simp [decW, h]
theorem decW_enc : ∀ s : Bs, decW (s.flatMap encB) = some s
  | [] => rfl
  | c :: t => by
    rw [List.flatMap_cons]
    cases hp : plainB c with
    | true =>
      rw [enc_one c hp, List.singleton_append, decW_skip c _ (plain_ne c hp), decW_enc t]
      rfl
    | false =>
      obtain ⟨h1, h2, h3⟩ := hex_back c
      rw [enc_three c hp, List.cons_append, List.cons_append, List.cons_append, List.nil_append]
      simp only [decW, if_true, h1, h2, decW_enc t, Option.map_some, h3]
theorem flat_ne : ∀ {s : Bs}, s ≠ [] → s.flatMap encB ≠ [37]
  | [], h => absurd rfl h
  | c :: t, _ => by
    rw [List.flatMap_cons]
    cases hp : plainB c with
    | true => rw [enc_one c hp]; intro e; simp at e; exact plain_ne c hp e.1
    | false => rw [enc_three c hp]; simp
theorem text_word (s : Bs) : textP (wordP s) = some s := by
  by_cases hs : s = []
  · subst hs; rfl
  · have he : s.isEmpty = false := by simpa using hs
    have hw : wordP s = s.flatMap encB := by simp [wordP, he]
    unfold textP
    rw [hw, if_neg (by simpa using flat_ne hs), decW_enc s]
    simp [hw]
theorem text_some {w s : Bs} (h : textP w = some s) : wordP s = w := by
  unfold textP at h
  split at h
  · rename_i h1
    injection h with h
    subst h
    exact (beq_iff_eq.1 h1).symm
  · split at h
    · split at h
      · rename_i h2
        injection h with h
        subst h
        exact beq_iff_eq.1 h2
      · cases h
    · cases h
theorem text_iff {w s : Bs} : textP w = some s ↔ wordP s = w := ⟨text_some, fun h => h ▸ text_word s⟩
theorem text_none {w : Bs} (h : ∀ s, wordP s ≠ w) : textP w = none := by
  cases e : textP w with
  | none => rfl
  | some s => exact absurd (text_some e) (h s)
theorem word_inj {a b : Bs} (h : wordP a = wordP b) : a = b := by
  have h1 := text_word a
  rw [h, text_word b] at h1
  injection h1 with h1
  exact h1.symm
theorem enc_in : ∀ c : UInt8, ∀ x ∈ encB c, 32 < x.toNat ∧ x.toNat < 127 := byte_all (by decide +kernel)
theorem word_in {s : Bs} {x : UInt8} (h : x ∈ wordP s) : 32 < x.toNat ∧ x.toNat < 127 := by
  unfold wordP at h
  split at h
  · simp at h; subst h; decide
  · obtain ⟨c, _, hx⟩ := List.mem_flatMap.1 h
    exact enc_in c x hx
theorem word_ne (s : Bs) : wordP s ≠ [] := by
  unfold wordP
  split
  · simp
  · rename_i h
    cases s with
    | nil => simp at h
    | cons c t =>
      rw [List.flatMap_cons]
      intro e
      exact enc_pos c (List.append_eq_nil_iff.1 e).1
theorem enc_len (c : UInt8) : (encB c).length ≤ 3 := by unfold encB; split <;> simp
theorem flat_len : ∀ s : Bs, (s.flatMap encB).length ≤ 3 * s.length
  | [] => by simp
  | c :: t => by
    rw [List.flatMap_cons, List.length_append, List.length_cons]
    have := enc_len c
    have := flat_len t
    omega
theorem word_len (s : Bs) : (wordP s).length ≤ 3 * s.length + 1 := by
  unfold wordP
  split
  · simp
  · have := flat_len s; omega

/-! ### A number's word -/
/-- What strconv.Atoi says beside its error. -/
def atoiV (w : Bs) : Int := match Lib.atoiAll w with | .ok v => v | .syntax => 0 | .range => Lib.atoiSat w
def numOk (w : Bs) : Bool := match Lib.atoiAll w with | .ok v => Lib.itoa v == w | _ => false
theorem numOk_itoa {w : Bs} (h : numOk w = true) : Lib.itoa (atoiV w) = w := by
  unfold numOk at h
  unfold atoiV
  split at h
  · rename_i v hv
    rw [hv]
    simpa using h
  · cases h
theorem atoiV_bounds (w : Bs) : -9223372036854775808 ≤ atoiV w ∧ atoiV w ≤ 9223372036854775807 := by
  unfold atoiV
  split
  · rename_i v h; exact Lib.atoiAll_bounds h
  · omega
  · exact Lib.atoiSat_bounds w

/-! ### Lines and words -/
/-- Cut at each byte c. -/
def cutAt (c : UInt8) : Bs → List Bs
  | [] => [[]]
  | b :: t => if b == c then [] :: cutAt c t else match cutAt c t with
    | [] => [[b]]
    | h :: r => (b :: h) :: r
theorem cutAt_ne (c : UInt8) : ∀ l, cutAt c l ≠ []
  | [] => by simp [cutAt]
  | b :: t => by
    unfold cutAt
    split
    · simp
    · split <;> simp
theorem cut_join (c : UInt8) : ∀ l : Bs, Lib.join (cutAt c l) [c] = l
  | [] => by simp [cutAt, Lib.join_one]
  | b :: t => by
    have ih := cut_join c t
    unfold cutAt
    split
    · rename_i h
      obtain rfl := beq_iff_eq.1 h
      rw [Lib.join_cons]
      cases hc : cutAt b t with
      | nil => exact absurd hc (cutAt_ne b t)
      | cons h r =>
        rw [hc, Lib.join_cons] at ih
        rw [← ih]
        simp [Lib.joinTail]
    · split
      · rename_i h; exact absurd h (cutAt_ne c t)
      · rename_i h r hr
        rw [hr, Lib.join_cons] at ih
        rw [Lib.join_cons, ← ih]
        rfl

/-! ### Steps -/
structure ClP where
  kind : Int
  page : Int
  slot : Int
  data : Bs
  deriving DecidableEq
structure StepP where
  kind : Int
  client : Int
  up : Bool
  n : Int
  fates : List Int
  call : ClP
  deriving DecidableEq
def noCall : ClP := ⟨0, 0, 0, []⟩
def noStep : StepP := ⟨0, 0, false, 0, [], noCall⟩

def upW : Bs := [117, 112]
def downW : Bs := [100, 111, 119, 110]
/-- client move drop twice tick crash start notice check calm -/
def stepW : List Bs := [[99, 108, 105, 101, 110, 116], [109, 111, 118, 101], [100, 114, 111, 112], [116, 119, 105, 99, 101], [116, 105, 99, 107], [99, 114, 97, 115, 104], [115, 116, 97, 114, 116], [110, 111, 116, 105, 99, 101], [99, 104, 101, 99, 107], [99, 97, 108, 109]]
/-- begin read insert update delete save back commit rollback -/
def callW : List Bs := [[98, 101, 103, 105, 110], [114, 101, 97, 100], [105, 110, 115, 101, 114, 116], [117, 112, 100, 97, 116, 101], [100, 101, 108, 101, 116, 101], [115, 97, 118, 101], [98, 97, 99, 107], [99, 111, 109, 109, 105, 116], [114, 111, 108, 108, 98, 97, 99, 107]]
/-- The place of a word, from 1 on; 0: it is none of them. -/
def kindP : List Bs → Bs → Nat
  | [], _ => 0
  | x :: l, w => if x == w then 1 else match kindP l w with | 0 => 0 | k + 1 => k + 2
def wordAt (l : List Bs) (k : Int) : Bs := if k < 1 then [] else l.getD (k - 1).toNat []
theorem kindP_le : ∀ (l : List Bs) (w : Bs), kindP l w ≤ l.length
  | [], _ => Nat.le_refl _
  | x :: l, w => by
    have ih := kindP_le l w
    unfold kindP
    split
    · simp
    · split
      · simp
      · rename_i k hk; rw [hk] at ih; simp; omega
theorem kindP_word : ∀ (l : List Bs) (w : Bs), kindP l w ≠ 0 → wordAt l (kindP l w : Int) = w
  | [], w, h => absurd rfl h
  | x :: l, w, h => by
    have ih := kindP_word l w
    unfold kindP at h ⊢
    split at h
    · rename_i hx
      rw [if_pos hx]
      simpa [wordAt] using beq_iff_eq.1 hx
    · rename_i hx
      rw [if_neg hx]
      split at h
      · exact absurd rfl h
      · rename_i k hk
        have := ih (by omega)
        rw [hk] at this
        unfold wordAt at this ⊢
        rw [if_neg (by omega)] at this ⊢
        rw [show (((k + 2 : Nat) : Int) - 1).toNat = k + 1 by omega, List.getD_cons_succ]
        rw [show (((k + 1 : Nat) : Int) - 1).toNat = k by omega] at this
        exact this

/-- What is left of a line, and whether a fault was found. -/
abbrev Rd := List Bs × Bool
def wordR (r : Rd) : Bs × Rd := match r.1 with
  | [] => ([], ([], true))
  | w :: t => (w, (t, r.2))
def numR (r : Rd) : Int × Rd := (atoiV (wordR r).1, ((wordR r).2.1, (wordR r).2.2 || !numOk (wordR r).1))
def textR (r : Rd) : Bs × Rd := ((textP (wordR r).1).getD [], ((wordR r).2.1, (wordR r).2.2 || (textP (wordR r).1).isNone))
def wayR (r : Rd) : Bool × Rd := ((wordR r).1 == upW, ((wordR r).2.1, (wordR r).2.2 || !((wordR r).1 == upW || (wordR r).1 == downW)))
def numIf (c : Bool) (r : Rd) : Int × Rd := if c then numR r else (0, r)
def textIf (c : Bool) (r : Rd) : Bs × Rd := if c then textR r else ([], r)
def pagedP (k : Int) : Bool := decide (2 ≤ k) && decide (k ≤ 5)
def slotP (k : Int) : Bool := pagedP k && k != 3 || k == 7
def dataP (k : Int) : Bool := k == 3 || k == 4
def callR (r : Rd) : ClP × Rd :=
  let k : Nat := kindP callW (wordR r).1
  let r2 : Rd := ((wordR r).2.1, (wordR r).2.2 || decide ((k : Int) = 0))
  let p := numIf (pagedP k) r2
  let s := numIf (slotP k) p.2
  let d := textIf (dataP k) s.2
  (⟨k, p.1, s.1, d.1⟩, d.2)
def fatesR : List Bs → Bool → List Int × Bool
  | [], b => ([], b)
  | w :: t, b => (atoiV w :: (fatesR t (b || !numOk w)).1, (fatesR t (b || !numOk w)).2)
def parseR (ws : List Bs) : StepP × Rd :=
  let r := (wordR (ws, false)).2
  let k : Nat := kindP stepW (wordR (ws, false)).1
  if k = 1 then
    let c := numR r
    let x := callR c.2
    (⟨k, c.1, false, 0, [], x.1⟩, x.2)
  else if k = 2 ∨ k = 3 ∨ k = 4 then
    let u := wayR r
    let c := numR u.2
    let n := numR c.2
    (⟨k, c.1, u.1, n.1, [], noCall⟩, n.2)
  else if k = 5 ∨ k = 8 then
    let c := numR r
    (⟨k, c.1, false, 0, [], noCall⟩, c.2)
  else if k = 6 then
    let c := numR r
    let n := numR c.2
    (⟨k, c.1, false, n.1, [], noCall⟩, n.2)
  else if k = 7 then
    let c := numR r
    let n := numR c.2
    (⟨k, c.1, false, n.1, (fatesR n.2.1 n.2.2).1, noCall⟩, ([], (fatesR n.2.1 n.2.2).2))
  else if k = 9 ∨ k = 10 then (⟨k, 0, false, 0, [], noCall⟩, r)
  else (⟨k, 0, false, 0, [], noCall⟩, (r.1, true))
def parseP (ws : List Bs) : Option StepP := if (parseR ws).2.2 || !(parseR ws).2.1.isEmpty then none else some (parseR ws).1

def calledP (x : ClP) : List Bs :=
  [wordAt callW x.kind] ++ (if pagedP x.kind then [Lib.itoa x.page] else []) ++ (if slotP x.kind then [Lib.itoa x.slot] else []) ++ (if dataP x.kind then [wordP x.data] else [])
def restP (s : StepP) : List Bs :=
  if s.kind = 1 then [Lib.itoa s.client] ++ calledP s.call
  else if s.kind = 2 ∨ s.kind = 3 ∨ s.kind = 4 then [if s.up then upW else downW, Lib.itoa s.client, Lib.itoa s.n]
  else if s.kind = 5 ∨ s.kind = 8 then [Lib.itoa s.client]
  else if s.kind = 6 ∨ s.kind = 7 then [Lib.itoa s.client, Lib.itoa s.n]
  else []
def writtenP (s : StepP) : List Bs := [wordAt stepW s.kind] ++ restP s ++ s.fates.map Lib.itoa
def lineOf (s : StepP) : Bs := Lib.join (writtenP s) [32]
def printP (s : StepP) : Option Bs := if parseP (cutAt 32 (lineOf s)) = some s then some (lineOf s) else none

/-! ### What is read is what would be written -/
theorem word_bad {r : Rd} (h : (wordR r).2.2 = false) : ∃ w t, r = (w :: t, false) ∧ wordR r = (w, (t, false)) := by
  obtain ⟨l, b⟩ := r
  cases l with
  | nil => simp [wordR] at h
  | cons w t =>
    have hb : b = false := h
    subst hb
    exact ⟨w, t, rfl, rfl⟩
theorem num_bad {r : Rd} (h : (numR r).2.2 = false) : ∃ t, r = (Lib.itoa (numR r).1 :: t, false) ∧ (numR r).2 = (t, false) := by
  have h0 : ((wordR r).2.2 || !numOk (wordR r).1) = false := h
  rw [Bool.or_eq_false_iff] at h0
  obtain ⟨w, t, rfl, e⟩ := word_bad h0.1
  have hn : numOk w = true := by have := h0.2; rw [e] at this; simpa using this
  exact ⟨t, by show (w :: t, false) = (Lib.itoa (atoiV w) :: t, false); rw [numOk_itoa hn], by show (t, false || !numOk w) = (t, false); rw [hn]; rfl⟩
theorem text_bad {r : Rd} (h : (textR r).2.2 = false) : ∃ t, r = (wordP (textR r).1 :: t, false) ∧ (textR r).2 = (t, false) := by
  have h0 : ((wordR r).2.2 || (textP (wordR r).1).isNone) = false := h
  rw [Bool.or_eq_false_iff] at h0
  obtain ⟨w, t, rfl, e⟩ := word_bad h0.1
  have hn := h0.2
  rw [e] at hn
  cases ht : textP w with
  | none => rw [show (w, (t, false)).1 = w from rfl, ht] at hn; cases hn
  | some s =>
    refine ⟨t, ?_, ?_⟩
    · show (w :: t, false) = (wordP ((textP w).getD []) :: t, false)
      rw [ht, Option.getD_some, text_some ht]
    · show (t, false || (textP w).isNone) = (t, false)
      rw [ht]; rfl
theorem way_bad {r : Rd} (h : (wayR r).2.2 = false) : ∃ t, r = ((if (wayR r).1 then upW else downW) :: t, false) ∧ (wayR r).2 = (t, false) := by
  have h0 : ((wordR r).2.2 || !((wordR r).1 == upW || (wordR r).1 == downW)) = false := h
  rw [Bool.or_eq_false_iff] at h0
  obtain ⟨w, t, rfl, e⟩ := word_bad h0.1
  have hn := h0.2
  rw [e] at hn
  have hn : (w == upW || w == downW) = true := by
    cases hc : (w == upW || w == downW) with
    | true => rfl
    | false => rw [show (w, (t, false)).1 = w from rfl, hc] at hn; cases hn
  refine ⟨t, ?_, ?_⟩
  · show (w :: t, false) = ((if (w == upW) = true then upW else downW) :: t, false)
    by_cases hu : (w == upW) = true
    · rw [if_pos hu, beq_iff_eq.1 hu]
    · rw [if_neg hu]
      rw [Bool.or_eq_true] at hn
      rcases hn with hn | hn
      · exact absurd hn hu
      · rw [beq_iff_eq.1 hn]
  · show (t, false || !(w == upW || w == downW)) = (t, false)
    rw [hn]; rfl
theorem numIf_bad {c : Bool} {r : Rd} (h : (numIf c r).2.2 = false) : ∃ t, r = ((if c then [Lib.itoa (numIf c r).1] else []) ++ t, false) ∧ (numIf c r).2 = (t, false) := by
  cases c with
  | true => obtain ⟨t, h1, h2⟩ := num_bad h; exact ⟨t, h1, h2⟩
  | false =>
    obtain ⟨l, b⟩ := r
    have hb : b = false := h
    subst hb
    exact ⟨l, rfl, rfl⟩
theorem textIf_bad {c : Bool} {r : Rd} (h : (textIf c r).2.2 = false) : ∃ t, r = ((if c then [wordP (textIf c r).1] else []) ++ t, false) ∧ (textIf c r).2 = (t, false) := by
  cases c with
  | true => obtain ⟨t, h1, h2⟩ := text_bad h; exact ⟨t, h1, h2⟩
  | false =>
    obtain ⟨l, b⟩ := r
    have hb : b = false := h
    subst hb
    exact ⟨l, rfl, rfl⟩
theorem call_bad {r : Rd} (h : (callR r).2.2 = false) : ∃ t, r = (calledP (callR r).1 ++ t, false) ∧ (callR r).2 = (t, false) ∧ (callR r).1.kind ≠ 0 := by
  obtain ⟨t3, e3, f3⟩ := textIf_bad (c := dataP (callR r).1.kind) h
  have h2 : (numIf (slotP (callR r).1.kind) (numIf (pagedP (callR r).1.kind) ((wordR r).2.1, (wordR r).2.2 || decide ((callR r).1.kind = 0))).2).2.2 = false := by
    exact (congrArg Prod.snd e3)
  obtain ⟨t2, e2, f2⟩ := numIf_bad h2
  have h1 : (numIf (pagedP (callR r).1.kind) ((wordR r).2.1, (wordR r).2.2 || decide ((callR r).1.kind = 0))).2.2 = false := congrArg Prod.snd e2
  obtain ⟨t1, e1, f1⟩ := numIf_bad h1
  have h0 : ((wordR r).2.2 || decide ((callR r).1.kind = 0)) = false := congrArg Prod.snd e1
  rw [Bool.or_eq_false_iff] at h0
  have hk : (callR r).1.kind ≠ 0 := by simpa using h0.2
  obtain ⟨w, t, hr, e⟩ := word_bad h0.1
  have e3' := (f2.symm.trans e3 : _)
  have e2' := (f1.symm.trans e2 : _)
  simp only [Prod.mk.injEq, and_true] at e3' e2' e1
  have hw : wordAt callW (callR r).1.kind = w := by
    have := kindP_word callW w (by have : (callR r).1.kind = (kindP callW w : Int) := by show ((kindP callW (wordR r).1 : Nat) : Int) = _; rw [e]
                                   omega)
    rw [show (callR r).1.kind = (kindP callW w : Int) by show ((kindP callW (wordR r).1 : Nat) : Int) = _; rw [e]]
    exact this
  refine ⟨t3, ?_, f3, hk⟩
  have ht : (wordR r).2.1 = t := by rw [e]
  have key : r.1 = w :: t := by rw [hr]
  have hb : r.2 = false := by rw [hr]
  have hc : calledP (callR r).1 ++ t3 = w :: t := by
    rw [← ht]
    rw [e1.1, e2', e3']
    simp only [calledP, hw, List.append_assoc, List.cons_append, List.nil_append]
    rfl
  rw [hc, ← key, ← hb]
theorem fates_bad : ∀ (l : List Bs) (b : Bool), (fatesR l b).2 = false → b = false ∧ (fatesR l b).1.map Lib.itoa = l
  | [], b, h => ⟨h, rfl⟩
  | w :: t, b, h => by
    obtain ⟨h1, h2⟩ := fates_bad t (b || !numOk w) h
    rw [Bool.or_eq_false_iff] at h1
    have hn : numOk w = true := by simpa using h1.2
    refine ⟨h1.1, ?_⟩
    show Lib.itoa (atoiV w) :: (fatesR t (b || !numOk w)).1.map Lib.itoa = _
    rw [h2, numOk_itoa hn]
theorem rd_eta {r : Rd} {l : List Bs} (h1 : r.1 = l) (h2 : r.2 = false) : r = (l, false) := by obtain ⟨a, b⟩ := r; simp_all
theorem parse_some {ws : List Bs} {s : StepP} (h : parseP ws = some s) : parseR ws = (s, ([], false)) := by
  unfold parseP at h
  split at h
  · cases h
  · rename_i hn
    injection h with h
    simp only [Bool.or_eq_true, not_or, Bool.not_eq_true, Bool.not_eq_eq_eq_not, Bool.not_true, Bool.not_false] at hn
    have h1 : (parseR ws).2.1 = [] := by simpa using hn.2
    rw [← h]
    exact Prod.ext rfl (rd_eta h1 hn.1)
theorem parse_written {ws : List Bs} {s : StepP} (h : parseP ws = some s) : writtenP s = ws := by
  have hp := parse_some h
  have head : ∀ {w : Bs} {t : List Bs}, wordR (ws, false) = (w, (t, false)) → ws = w :: t := by
    intro w t hw
    cases ws with
    | nil => simp [wordR] at hw
    | cons a b => simp [wordR] at hw; rw [hw.1, hw.2]
  obtain ⟨w, r, hwr⟩ : ∃ w r, wordR (ws, false) = (w, r) := ⟨_, _, rfl⟩
  have hk := kindP_word stepW w
  obtain ⟨k, hkk⟩ : ∃ k, kindP stepW w = k := ⟨_, rfl⟩
  unfold parseR at hp
  simp only [hwr, hkk] at hp
  rw [hkk] at hk
  have fin : ∀ {rest : List Bs}, k ≠ 0 → r = (rest, false) → s.kind = k → restP s ++ s.fates.map Lib.itoa = rest → writtenP s = ws := by
    intro rest hk0 hr hsk he
    rw [hr] at hwr
    rw [head hwr]
    show [wordAt stepW s.kind] ++ restP s ++ s.fates.map Lib.itoa = _
    rw [List.append_assoc, he, hsk, hk hk0]
    rfl
  by_cases h1 : k = 1
  · subst h1
    simp only [if_true, Prod.mk.injEq] at hp
    obtain ⟨hs, hr⟩ := hp
    obtain ⟨t2, e2, f2, _⟩ := call_bad (r := (numR r).2) (by rw [hr])
    obtain ⟨t1, e1, f1⟩ := num_bad (r := r) (by rw [e2])
    rw [hr] at f2
    rw [e2] at f1
    simp only [Prod.mk.injEq, and_true] at f1 f2
    refine fin (by decide) e1 (by rw [← hs]) ?_
    rw [← f1, ← f2, ← hs]
    simp [restP]
  rw [if_neg h1] at hp
  by_cases h2 : k = 2 ∨ k = 3 ∨ k = 4
  · rw [if_pos h2] at hp
    simp only [Prod.mk.injEq] at hp
    obtain ⟨hs, hr⟩ := hp
    obtain ⟨t3, e3, f3⟩ := num_bad (r := (numR (wayR r).2).2) (by rw [hr])
    obtain ⟨t2, e2, f2⟩ := num_bad (r := (wayR r).2) (by rw [e3])
    obtain ⟨t1, e1, f1⟩ := way_bad (r := r) (by rw [e2])
    rw [hr] at f3
    rw [e3] at f2
    rw [e2] at f1
    simp only [Prod.mk.injEq, and_true] at f1 f2 f3
    refine fin (by omega) e1 (by rw [← hs]) ?_
    rw [← f1, ← f2, ← f3, ← hs]
    have : (k : Int) ≠ 1 := by omega
    have h2' : (k : Int) = 2 ∨ (k : Int) = 3 ∨ (k : Int) = 4 := by omega
    simp [restP, this, h2']
  rw [if_neg h2] at hp
  by_cases h3 : k = 5 ∨ k = 8
  · rw [if_pos h3] at hp
    simp only [Prod.mk.injEq] at hp
    obtain ⟨hs, hr⟩ := hp
    obtain ⟨t1, e1, f1⟩ := num_bad (r := r) (by rw [hr])
    rw [hr] at f1
    simp only [Prod.mk.injEq, and_true] at f1
    refine fin (by omega) e1 (by rw [← hs]) ?_
    rw [← f1, ← hs]
    have a1 : (k : Int) ≠ 1 := by omega
    have a2 : ¬ ((k : Int) = 2 ∨ (k : Int) = 3 ∨ (k : Int) = 4) := by omega
    have a3 : (k : Int) = 5 ∨ (k : Int) = 8 := by omega
    simp [restP, a1, a2, a3]
  rw [if_neg h3] at hp
  by_cases h4 : k = 6
  · rw [if_pos h4] at hp
    simp only [Prod.mk.injEq] at hp
    obtain ⟨hs, hr⟩ := hp
    obtain ⟨t2, e2, f2⟩ := num_bad (r := (numR r).2) (by rw [hr])
    obtain ⟨t1, e1, f1⟩ := num_bad (r := r) (by rw [e2])
    rw [hr] at f2
    rw [e2] at f1
    simp only [Prod.mk.injEq, and_true] at f1 f2
    refine fin (by omega) e1 (by rw [← hs]) ?_
    rw [← f1, ← f2, ← hs, h4]
    simp [restP]
  rw [if_neg h4] at hp
  by_cases h5 : k = 7
  · rw [if_pos h5] at hp
    simp only [Prod.mk.injEq] at hp
    obtain ⟨hs, _, hr⟩ := hp
    obtain ⟨g1, g2⟩ := fates_bad _ _ hr
    obtain ⟨t2, e2, f2⟩ := num_bad (r := (numR r).2) g1
    obtain ⟨t1, e1, f1⟩ := num_bad (r := r) (by rw [e2])
    rw [e2] at f1
    rw [f2] at g2
    simp only [Prod.mk.injEq, and_true] at f1
    refine fin (by omega) e1 (by rw [← hs]) ?_
    rw [← f1, ← hs, h5]
    simp only [f2] at g2 ⊢
    simp [restP, g2]
  rw [if_neg h5] at hp
  by_cases h6 : k = 9 ∨ k = 10
  · rw [if_pos h6] at hp
    simp only [Prod.mk.injEq] at hp
    obtain ⟨hs, hr⟩ := hp
    refine fin (by omega) hr (by rw [← hs]) ?_
    rw [← hs]
    have a1 : (k : Int) ≠ 1 := by omega
    have a2 : ¬ ((k : Int) = 2 ∨ (k : Int) = 3 ∨ (k : Int) = 4) := by omega
    have a3 : ¬ ((k : Int) = 5 ∨ (k : Int) = 8) := by omega
    have a4 : ¬ ((k : Int) = 6 ∨ (k : Int) = 7) := by omega
    simp [restP, a1, a2, a3, a4]
  rw [if_neg h6] at hp
  simp at hp
theorem parse_line {l : Bs} {s : StepP} (h : parseP (cutAt 32 l) = some s) : lineOf s = l := by
  unfold lineOf
  rw [parse_written h, cut_join]
theorem print_parse {a : StepP} {x : Bs} (h : printP a = some x) : parseP (cutAt 32 x) = some a := by
  unfold printP at h
  split at h
  · rename_i h1; injection h with h; rw [← h]; exact h1
  · cases h
theorem parse_print {l : Bs} {s : StepP} (h : parseP (cutAt 32 l) = some s) : printP s = some l := by
  unfold printP
  rw [parse_line h, if_pos h]
theorem print_inj {a b : StepP} {x : Bs} (h : printP a = some x) (h' : printP b = some x) : a = b := by
  have h1 := print_parse h
  rw [print_parse h'] at h1
  injection h1 with h1
  exact h1.symm

/-! ### Scripts -/
def isNote (l : Bs) : Bool := l.isEmpty || l.head? == some 35
/-- A line's steps, none or one, and whether it is passed over. -/
def lineP (l : Bs) : List StepP := if isNote l then [] else (parseP (cutAt 32 l)).toList
def skipP (l : Bs) : Nat := if isNote l then 0 else if (parseP (cutAt 32 l)).isSome then 0 else 1
def stepsP (ls : List Bs) : List StepP := ls.flatMap lineP
def skipsP (ls : List Bs) : Nat := (ls.map skipP).sum
/-- The steps, how many lines are passed over, an error. -/
def scriptP (t : Bs) : List StepP × Nat × Int :=
  if 131072 < t.length then ([], 0, 5)
  else if 600 < (stepsP (cutAt 10 t)).length then ([], 0, 51)
  else (stepsP (cutAt 10 t), skipsP (cutAt 10 t), 0)

/-! ### What awake asks -/
def aw1 : Bs := [99, 108, 105, 101, 110, 116, 32, 50, 32, 105, 110, 115, 101, 114, 116, 32, 51, 32, 97, 37, 50, 48, 98]
def aw1S : StepP := ⟨1, 2, false, 0, [], ⟨3, 3, 0, [97, 32, 98]⟩⟩
def aw2 : Bs := [115, 116, 97, 114, 116, 32, 48, 32, 48, 32, 49, 32, 50]
def aw2S : StepP := ⟨7, 0, false, 0, [1, 2], noCall⟩
def aw3 : Bs := [35, 32, 97, 32, 114, 101, 109, 97, 114, 107, 10, 99, 97, 108, 109, 10, 110, 111, 110, 115, 101, 110, 115, 101, 10, 10, 99, 104, 101, 99, 107]
theorem aw1_ok : parseP (cutAt 32 aw1) = some aw1S := by decide +kernel
theorem aw2_ok : printP aw2S = some aw2 := by decide +kernel
theorem aw3_ok : scriptP aw3 = ([⟨10, 0, false, 0, [], noCall⟩, ⟨9, 0, false, 0, [], noCall⟩], 1, 0) := by decide +kernel

end Go.Proofs.YtbikplckehbcnaaDoor
