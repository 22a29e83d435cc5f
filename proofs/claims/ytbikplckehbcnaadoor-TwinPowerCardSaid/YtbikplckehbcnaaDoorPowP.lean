/- Wherever the power goes, no page is lost: plain. -/
import Derived.Test.YtbikplckehbcnaaDoorOpenW
import Derived.Test.YtbikplckehbcnaaDoorRefS
set_option linter.unusedVariables false
set_option linter.unusedSimpArgs false
namespace Go.Proofs.YtbikplckehbcnaaDoor
open Go Go.RowKit

/-! ### steps of a plate whose power is on -/
/-- The step answered 0 and the power is on still, or 10 and it is gone. -/
def Went (s s' : PSt) (r : Int) : Prop := s'.count = s.count ∧ s.acts ≤ s'.acts ∧
  ((r = 0 ∧ s'.down = false ∧ s'.life = s.life ∧ 0 ≤ s'.armed ∧ (s.armed = 0 → s'.armed = 0)) ∨ (r = 10 ∧ s'.down = true ∧ s'.life = s.life + 1 ∧ s'.armed = 0 ∧ s.armed ≠ 0))
theorem Went.trans {s s1 s2 : PSt} {r : Int} (h : Went s s1 0) (k : Went s1 s2 r) : Went s s2 r := by
  obtain ⟨a1, a2, a3⟩ := h
  obtain ⟨b1, b2, b3⟩ := k
  rcases a3 with ⟨_, c1, c2, c3, c4⟩ | ⟨h, _⟩
  · refine ⟨b1.trans a1, by omega, ?_⟩
    rcases b3 with ⟨d0, d1, d2, d3, d4⟩ | ⟨d0, d1, d2, d3, d4⟩
    · exact .inl ⟨d0, d1, by omega, d3, fun h => d4 (c4 h)⟩
    · exact .inr ⟨d0, d1, by omega, d3, fun h => d4 (c4 h)⟩
  · cases h
theorem act_up {s : PSt} (hd : s.down = false) (ha : 0 ≤ s.armed) : Went s s.act.1 s.act.2 := by
  unfold PSt.act
  by_cases h1 : 0 < s.armed
  · rw [if_pos h1]
    by_cases h2 : s.armed = 1
    · rw [if_pos h2]
      refine ⟨?_, ?_, .inr ⟨rfl, ?_, ?_, ?_, by omega⟩⟩ <;> simp [PSt.off, hd]
      omega
    · rw [if_neg h2]
      exact ⟨rfl, by simp; omega, .inl ⟨rfl, hd, rfl, by simp; omega, fun h => by omega⟩⟩
  · rw [if_neg h1]
    exact ⟨rfl, by simp; omega, .inl ⟨rfl, hd, rfl, ha, fun h => h⟩⟩
theorem act_count (s : PSt) : s.act.1.count = s.count := by
  unfold PSt.act PSt.off
  split <;> (try split) <;> (try split) <;> rfl
theorem write_up {s : PSt} (hd : s.down = false) (ha : 0 ≤ s.armed) {a : Int} {t : ByteArray} (h0 : 0 ≤ a) (h1 : a < s.count) (ht : t.size = 256) :
    ∃ s' r, s.write a t = (s', r) ∧ Went s s' r ∧ s'.acts = s.acts + 1 ∧ s'.secs = s.secs ∧ s'.queue = s.queue ++ [(a, t)] := by
  have e1 : s.rdy a = 0 := by unfold PSt.rdy; rw [hd]; simp; omega
  have e : s.write a t = ({ s with queue := s.queue ++ [(a, t)] } : PSt).act := by unfold PSt.write; rw [e1]; simp [ht]
  refine ⟨_, _, e, ?_, PSt.act_acts _, PSt.act_secs _, PSt.act_queue _⟩
  have h := act_up (s := { s with queue := s.queue ++ [(a, t)] }) hd ha
  exact h
theorem sync_up {s : PSt} (hd : s.down = false) (ha : 0 ≤ s.armed) (hc : 1 ≤ s.count) :
    ∃ s' r, s.sync = (s', r) ∧ Went s s' r ∧ s'.acts = s.acts + 1 ∧ ((r = 0 ∧ s'.secs = PSt.puts s.secs s.queue ∧ s'.queue = []) ∨ (r = 10 ∧ s'.secs = s.secs ∧ s'.queue = s.queue)) := by
  have e1 : s.rdy 0 = 0 := by unfold PSt.rdy; rw [hd]; simp; omega
  obtain ⟨a1, a2, a3⟩ := act_up hd ha
  rcases a3 with ⟨c0, c1, c2, c3, c4⟩ | ⟨c0, c1, c2, c3, c4⟩
  · refine ⟨{ s.act.1 with secs := PSt.puts s.secs s.queue, queue := [] }, 0, ?_, ⟨a1, a2, .inl ⟨rfl, c1, c2, c3, c4⟩⟩, PSt.act_acts s, .inl ⟨rfl, rfl, rfl⟩⟩
    unfold PSt.sync
    rw [if_neg (by rw [e1]; simp), if_neg (by rw [c0]; simp)]
  · refine ⟨s.act.1, 10, ?_, ⟨a1, a2, .inr ⟨rfl, c1, c2, c3, c4⟩⟩, PSt.act_acts s, .inr ⟨rfl, PSt.act_secs s, PSt.act_queue s⟩⟩
    unfold PSt.sync
    rw [if_neg (by rw [e1]; simp), if_pos (by rw [c0]; simp), ← c0]
theorem Went.up {s s' : PSt} (h : Went s s' 0) : s'.down = false ∧ 0 ≤ s'.armed ∧ s'.count = s.count := by
  obtain ⟨a, _, ⟨_, b, _, c, _⟩ | ⟨h, _⟩⟩ := h
  · exact ⟨b, c, a⟩
  · cases h
theorem Went.zero {s s' : PSt} {r : Int} (h : Went s s' r) : r = 0 ∨ r = 10 := by
  obtain ⟨_, _, ⟨a, _⟩ | ⟨a, _⟩⟩ := h
  · exact .inl a
  · exact .inr a
theorem layW_up : ∀ (l : List (Int × ByteArray)) (s : PSt), s.down = false → 0 ≤ s.armed → (∀ x ∈ l, 0 ≤ x.1 ∧ x.1 < s.count ∧ x.2.size = 256) →
    ∃ s' r, layW s l = (s', r) ∧ Went s s' r ∧ s'.acts ≤ s.acts + l.length ∧ s'.secs = s.secs ∧ ∃ j, s'.queue = s.queue ++ l.take j ∧ (r = 0 → l.length ≤ j) := by
  intro l
  induction l with
  | nil => intro s hd ha _; exact ⟨s, 0, rfl, ⟨rfl, by omega, .inl ⟨rfl, hd, rfl, ha, fun h => h⟩⟩, by simp, rfl, 0, by simp, by simp⟩
  | cons x l ih =>
    intro s hd ha hl
    obtain ⟨h0, h1, h2⟩ := hl x (by simp)
    obtain ⟨s1, r1, e1, w1, a1, c1, q1⟩ := write_up hd ha h0 h1 h2
    rcases w1.zero with rfl | rfl
    · obtain ⟨u1, u2, u3⟩ := w1.up
      obtain ⟨s2, r2, e2, w2, a2, c2, j, q2, hj⟩ := ih s1 u1 u2 (fun y hy => by rw [u3]; exact hl y (by simp [hy]))
      refine ⟨s2, r2, ?_, w1.trans w2, by rw [List.length_cons]; omega, c2.trans c1, j + 1, by rw [q2, q1]; simp, fun h => by have := hj h; rw [List.length_cons]; omega⟩
      simp only [layW, e1, if_true, e2]
    · refine ⟨s1, 10, ?_, w1, by rw [List.length_cons]; omega, c1, 1, by rw [q1]; simp, fun h => by cases h⟩
      simp only [layW, e1]
      rfl
theorem layS_up (l : List (Int × ByteArray)) (s : PSt) (hd : s.down = false) (ha : 0 ≤ s.armed) (hc : 1 ≤ s.count) (hl : ∀ x ∈ l, 0 ≤ x.1 ∧ x.1 < s.count ∧ x.2.size = 256) :
    ∃ s' r, layS s l = (s', r) ∧ Went s s' r ∧ s'.acts ≤ s.acts + l.length + 1 ∧ ((r = 0 ∧ s'.secs = PSt.puts s.secs (s.queue ++ l) ∧ s'.queue = []) ∨ (r = 10 ∧ s'.secs = s.secs ∧ ∃ j, s'.queue = s.queue ++ l.take j)) := by
  obtain ⟨s1, r1, e1, w1, a1, c1, j, q1, hj⟩ := layW_up l s hd ha hl
  rcases w1.zero with rfl | rfl
  · obtain ⟨u1, u2, u3⟩ := w1.up
    obtain ⟨s2, r2, e2, w2, a2, h2⟩ := sync_up u1 u2 (by omega)
    have hq : s1.queue = s.queue ++ l := by rw [q1, List.take_of_length_le (hj rfl)]
    refine ⟨s2, r2, ?_, w1.trans w2, by omega, ?_⟩
    · unfold layS; rw [e1]; simp only [if_true]; exact e2
    · rcases h2 with ⟨a, b, c⟩ | ⟨a, b, c⟩
      · exact .inl ⟨a, by rw [b, c1, hq], c⟩
      · exact .inr ⟨a, b.trans c1, j, c.trans q1⟩
  · refine ⟨s1, 10, ?_, w1, by omega, .inr ⟨rfl, c1, j, q1⟩⟩
    unfold layS; rw [e1]; rfl

/-! ### reading -/
theorem last_no {q : List (Int × ByteArray)} {a : Int} (h : ∀ x ∈ q, x.1 ≠ a) : PSt.last q a = none := by
  unfold PSt.last
  rw [List.find?_eq_none.2 (fun x hx => by have := h x (List.mem_reverse.1 hx); simpa using this)]
  rfl
/-- What reading a sector answers. -/
def secR : Option ByteArray → ByteArray × Int
  | none => (PSt.zeros, 0)
  | some t => if t.size = 0 then (ByteArray.empty, 20) else (t, 0)
theorem secR_whole {t : ByteArray} (h : t.size = 256) : secR (some t) = (t, 0) := if_neg (by omega)
theorem secR_torn : secR (some ByteArray.empty) = (ByteArray.empty, 20) := by decide
theorem read_up {s : PSt} (hd : s.down = false) {a : Int} (h0 : 0 ≤ a) (h1 : a < s.count) (hq : ∀ x ∈ s.queue, x.1 ≠ a) :
    s.read a = secR (s.secs a) := by
  have e1 : s.rdy a = 0 := by unfold PSt.rdy; rw [hd]; simp; omega
  unfold PSt.read
  rw [if_neg (by rw [e1]; simp), last_no hq]
  rfl

abbrev Sec := Int → Option ByteArray
def plF (f : Sec) : PSt := ⟨16, f, [], false, 0, 0, 0⟩
noncomputable def copF (f : Sec) (n : Nat) : Option Pg := copP (plF f) 0 3 n
theorem copStep_congr {s s' : PSt} {n i : Nat} {b : Option Pg} (h : s.read ((0 + i : Nat) : Int) = s'.read ((0 + i : Nat) : Int)) : copStep s 0 n b i = copStep s' 0 n b i := by unfold copStep; rw [h]
theorem cop3 (s : PSt) (n : Nat) : copP s 0 3 n = copStep s 0 n (copStep s 0 n (copStep s 0 n none 0) 1) 2 := rfl
theorem copP_eq {s : PSt} (hd : s.down = false) (hc : s.count = 16) (hq : ∀ x ∈ s.queue, 3 ≤ x.1) (n : Nat) : copP s 0 3 n = copF s.secs n := by
  have h : ∀ i : Nat, i < 3 → s.read ((0 + i : Nat) : Int) = (plF s.secs).read ((0 + i : Nat) : Int) := by
    intro i hi
    rw [read_up hd (by omega) (by rw [hc]; omega) (fun x hx e => by have := hq x hx; omega), read_up (s := plF s.secs) rfl (by omega) (by show ((0 + i : Nat) : Int) < 16; omega) (fun x hx => by cases hx)]
    rfl
  unfold copF
  rw [cop3, cop3, copStep_congr (h 0 (by omega)), copStep_congr (h 1 (by omega)), copStep_congr (h 2 (by omega))]
theorem copF_congr {f g : Sec} (h : ∀ j : Nat, j < 3 → f j = g j) (n : Nat) : copF f n = copF g n := by
  have hr : ∀ i : Nat, i < 3 → (plF f).read ((0 + i : Nat) : Int) = (plF g).read ((0 + i : Nat) : Int) := by
    intro i hi
    rw [read_up (s := plF f) rfl (by omega) (by show ((0 + i : Nat) : Int) < 16; omega) (fun x hx => by cases hx), read_up (s := plF g) rfl (by omega) (by show ((0 + i : Nat) : Int) < 16; omega) (fun x hx => by cases hx)]
    show secR (f ((0 + i : Nat) : Int)) = secR (g ((0 + i : Nat) : Int))
    rw [Nat.zero_add, h i hi]
  unfold copF
  rw [cop3, cop3, copStep_congr (hr 0 (by omega)), copStep_congr (hr 1 (by omega)), copStep_congr (hr 2 (by omega))]
/-- What a copy's sector says. -/
noncomputable def twF (f : Sec) (n j : Nat) : Option Pg := match f (j : Int) with | none => none | some t => pgOf (n : Int) t
theorem pgOf_zeros (n : Int) : pgOf n PSt.zeros = none := pgOf_none (zeros_none n)
theorem pgOf_small {n : Int} {t : ByteArray} (h : t.size ≠ 256) : pgOf n t = none := pgOf_none (fun l xs hg he => h (by rw [← he]; exact sectS_size hg))
theorem copStep_tw (f : Sec) (n j : Nat) (hj : j < 3) (b : Option Pg) : copStep (plF f) 0 n b j = match twF f n j with | none => b | some p => match b with | none => some p | some q => if q.1 < p.1 then some p else some q := by
  unfold copStep twF
  rw [read_up (s := plF f) rfl (by omega) (by show ((0 + j : Nat) : Int) < 16; omega) (fun x hx => by cases hx)]
  rw [Nat.zero_add]
  rw [show (plF f).secs = f from rfl]
  cases hf : f (j : Int) with
  | none => simp [pgOf_zeros, secR]
  | some t =>
    by_cases ht : t.size = 0
    · have h1 := pgOf_small (n := (n : Int)) (t := t) (by omega)
      simp only [secR, ht, h1, if_true]
      rfl
    · simp only [secR, ht, if_false]
      rfl
theorem copF_max {f : Sec} {n a : Nat} {p : Pg} (ha : a < 3) (hp : twF f n a = some p) (ho : ∀ j, j < 3 → j ≠ a → ∀ x, twF f n j = some x → x.1 < p.1) : copF f n = some p := by
  unfold copF
  rw [cop3, copStep_tw f n 0 (by omega), copStep_tw f n 1 (by omega), copStep_tw f n 2 (by omega)]
  have h : a = 0 ∨ a = 1 ∨ a = 2 := by omega
  rcases h with rfl | rfl | rfl
  · have h1 := ho 1 (by omega) (by omega)
    have h2 := ho 2 (by omega) (by omega)
    rw [hp]
    cases e1 : twF f n 1 with
    | none =>
      cases e2 : twF f n 2 with
      | none => rfl
      | some y => have := h2 y e2; simp; omega
    | some x =>
      have := h1 x e1
      cases e2 : twF f n 2 with
      | none => simp; omega
      | some y => have := h2 y e2; simp [show ¬ p.1 < x.1 by omega]; omega
  · have h1 := ho 0 (by omega) (by omega)
    have h2 := ho 2 (by omega) (by omega)
    rw [hp]
    cases e1 : twF f n 0 with
    | none =>
      cases e2 : twF f n 2 with
      | none => rfl
      | some y => have := h2 y e2; simp; omega
    | some x =>
      have := h1 x e1
      cases e2 : twF f n 2 with
      | none => simp; omega
      | some y => have := h2 y e2; simp [show x.1 < p.1 by omega]; omega
  · have h1 := ho 0 (by omega) (by omega)
    have h2 := ho 1 (by omega) (by omega)
    rw [hp]
    cases e1 : twF f n 0 with
    | none =>
      cases e2 : twF f n 1 with
      | none => rfl
      | some y => have := h2 y e2; simp; omega
    | some x =>
      have := h1 x e1
      cases e2 : twF f n 1 with
      | none => simp; omega
      | some y =>
        have := h2 y e2
        simp only
        by_cases hxy : x.1 < y.1
        · simp [hxy]; omega
        · simp [hxy]; omega


def hm (n : Nat) : Int := ((3 + n : Nat) : Int)
def HomeIs (f : Sec) (n : Nat) (x : Pg) : Prop := (f (hm n) = none ∧ x = (0, [])) ∨ (f (hm n) = some (sectS n x.1 x.2) ∧ GoodP x.1 x.2)
/-- All homes are whole; no copy is newer than i. -/
structure Inv (f : Sec) (ps : List Pg) (i : Int) : Prop where
  ln : ps.length = 5
  home : ∀ n < 5, ∃ x, ps[n]? = some x ∧ HomeIs f n x
  twins : ∀ j < 3, ∀ n < 5, ∀ x, twF f n j = some x → x.1 ≤ i
  fu : ∀ a t, f a = some t → t.size = 0 ∨ t.size = 256
/-- Each home is whole, as it was or as it is to be, or torn, and the best copy is what is to be. -/
structure Rec (f : Sec) (sure next : List Pg) (i : Int) : Prop where
  ls : sure.length = 5
  ln : next.length = 5
  home : ∀ n < 5, (∃ x, (sure[n]? = some x ∨ next[n]? = some x) ∧ HomeIs f n x) ∨ (f (hm n) = some ByteArray.empty ∧ ∃ x, next[n]? = some x ∧ copF f n = some x)
  twins : ∀ j < 3, ∀ n < 5, ∀ x, twF f n j = some x → x.1 ≤ i
  fu : ∀ a t, f a = some t → t.size = 0 ∨ t.size = 256
theorem Inv.rec_ {f : Sec} {sure next : List Pg} {i : Int} (h : Inv f sure i) (hn : next.length = 5) : Rec f sure next i :=
  ⟨h.ln, hn, fun n hn => by obtain ⟨x, a, b⟩ := h.home n hn; exact .inl ⟨x, .inl a, b⟩, h.twins, h.fu⟩
/-- What waits are homes of pages that are to be. -/
def QG (f : Sec) (next : List Pg) (q : List (Int × ByteArray)) (k : Nat) : Prop := ∀ x ∈ q, ∃ n y, n < k ∧ next[n]? = some y ∧ x = (hm n, sectS n y.1 y.2) ∧ copF f n = some y

theorem put_same (f : Sec) (a : Int) (t : ByteArray) : PSt.put f (a, t) a = some t := by simp [PSt.put]
theorem put_other (f : Sec) {a b : Int} (t : ByteArray) (h : b ≠ a) : PSt.put f (a, t) b = f b := by simp [PSt.put, h]
theorem hm_inj {a b : Nat} (h : hm a = hm b) : a = b := by unfold hm at h; omega
theorem hm_tw {n j : Nat} (hj : j < 3) : (j : Int) ≠ hm n := by unfold hm; omega
theorem cop_good {f : Sec} {n : Nat} {x : Pg} (h : copF f n = some x) : GoodP x.1 x.2 := goodP_iff.1 (copP_good h)
theorem twF_congr {f g : Sec} (h : ∀ j : Nat, j < 3 → f j = g j) {n j : Nat} (hj : j < 3) : twF f n j = twF g n j := by unfold twF; rw [h j hj]

/-- One of what waits, by its fate. -/
theorem rec_put {f : Sec} {sure next : List Pg} {i : Int} (h : Rec f sure next i) {n : Nat} {y : Pg} (hn : n < 5) (hy : next[n]? = some y) (hc : copF f n = some y) (t : ByteArray) (ht : t = sectS n y.1 y.2 ∨ t = ByteArray.empty) :
    Rec (PSt.put f (hm n, t)) sure next i ∧ ∀ j : Nat, j < 3 → PSt.put f (hm n, t) j = f j := by
  have hj : ∀ j : Nat, j < 3 → PSt.put f (hm n, t) j = f j := fun j hj => put_other f t (hm_tw hj)
  refine ⟨⟨h.ls, h.ln, fun m hm' => ?_, fun j hj' m hm' x hx => h.twins j hj' m hm' x (by rw [← twF_congr hj hj']; exact hx), fun a u hu => ?_⟩, hj⟩
  · by_cases e : m = n
    · subst e
      rcases ht with rfl | rfl
      · exact .inl ⟨y, .inr hy, .inr ⟨put_same _ _ _, cop_good hc⟩⟩
      · exact .inr ⟨put_same _ _ _, y, hy, by rw [copF_congr hj]; exact hc⟩
    · have e2 : PSt.put f (hm n, t) (hm m) = f (hm m) := put_other f t (fun h => e (hm_inj h))
      rcases h.home m hm' with ⟨x, a, b⟩ | ⟨a, x, b, c⟩
      · left
        refine ⟨x, a, ?_⟩
        unfold HomeIs
        rw [e2]
        exact b
      · exact .inr ⟨by rw [e2]; exact a, x, b, by rw [copF_congr hj]; exact c⟩
  · by_cases e : a = hm n
    · rw [e, put_same] at hu
      cases hu
      rcases ht with rfl | rfl
      · exact .inr (sectS_size (cop_good hc))
      · exact .inl rfl
    · rw [put_other f t e] at hu
      exact h.fu a u hu
theorem rec_fated {f : Sec} {sure next : List Pg} {i : Int} (h : Rec f sure next i) {n : Nat} {y : Pg} (hn : n < 5) (hy : next[n]? = some y) (hc : copF f n = some y) (l : List Int) (k : Nat) :
    Rec (PSt.fated f l k (hm n, sectS n y.1 y.2)) sure next i ∧ ∀ j : Nat, j < 3 → PSt.fated f l k (hm n, sectS n y.1 y.2) j = f j := by
  unfold PSt.fated
  split
  · exact rec_put h hn hy hc _ (.inl rfl)
  · split
    · exact rec_put h hn hy hc _ (.inr rfl)
    · exact ⟨h, fun _ _ => rfl⟩
theorem rec_onto {sure next : List Pg} {i : Int} (l : List Int) : ∀ (q : List (Int × ByteArray)) (f : Sec) (k : Nat), Rec f sure next i → QG f next q 5 → Rec (PSt.onto l f k q) sure next i := by
  intro q
  induction q with
  | nil => intro f k h _; exact h
  | cons x q ih =>
    intro f k h hq
    obtain ⟨n, y, hn, hy, rfl, hc⟩ := hq x (by simp)
    obtain ⟨h1, hj⟩ := rec_fated h hn hy hc l k
    refine ih _ (k + 1) h1 (fun z hz => ?_)
    obtain ⟨m, v, a, b, c, d⟩ := hq z (by simp [hz])
    exact ⟨m, v, a, b, c, by rw [copF_congr hj]; exact d⟩

/-- A copy's sector, by its fate. -/
theorem inv_put {f : Sec} {ps : List Pg} {i : Int} (h : Inv f ps i) {a : Nat} (ha : a < 3) (t : ByteArray) (ht : t = ByteArray.empty ∨ ∃ (m : Int) (l : Int) (xs : List Slt), GoodP l xs ∧ l ≤ i ∧ t = sectS m l xs) : Inv (PSt.put f ((a : Int), t)) ps i := by
  refine ⟨h.ln, fun n hn => ?_, fun j hj n hn x hx => ?_, fun b u hu => ?_⟩
  · obtain ⟨x, e, hx⟩ := h.home n hn
    refine ⟨x, e, ?_⟩
    unfold HomeIs
    rw [put_other f t (fun e => hm_tw ha e.symm)]
    exact hx
  · by_cases e : j = a
    · subst e
      unfold twF at hx
      rw [put_same] at hx
      simp only at hx
      rcases ht with rfl | ⟨m, l, xs, hg, hl, rfl⟩
      · rw [pgOf_small (by decide)] at hx
        cases hx
      · obtain ⟨g1, g2⟩ := pgOf_spec (l := x.1) (xs := x.2) hx
        have := encS_inj g1 hg (by rw [← sectS_front (n := (n : Int)) g1, ← sectS_front (n := m) hg, g2])
        omega
    · unfold twF at hx
      rw [put_other f t (by omega)] at hx
      exact h.twins j hj n hn x hx
  · by_cases e : b = (a : Int)
    · rw [e, put_same] at hu
      cases hu
      rcases ht with rfl | ⟨m, l, xs, hg, hl, rfl⟩
      · exact .inl rfl
      · exact .inr (sectS_size hg)
    · rw [put_other f t e] at hu
      exact h.fu b u hu
/-- What waits are copies. -/
def QT (q : List (Int × ByteArray)) (i : Int) : Prop := ∀ x ∈ q, ∃ (a : Nat) (m l : Int) (xs : List Slt), a < 3 ∧ GoodP l xs ∧ l ≤ i ∧ x = ((a : Int), sectS m l xs)
theorem inv_onto {ps : List Pg} {i : Int} (l : List Int) : ∀ (q : List (Int × ByteArray)) (f : Sec) (k : Nat), Inv f ps i → QT q i → Inv (PSt.onto l f k q) ps i := by
  intro q
  induction q with
  | nil => intro f k h _; exact h
  | cons x q ih =>
    intro f k h hq
    obtain ⟨a, m, v, xs, ha, hg, hl, rfl⟩ := hq x (by simp)
    refine ih _ (k + 1) ?_ (fun z hz => hq z (by simp [hz]))
    unfold PSt.fated
    split
    · exact inv_put h ha _ (.inr ⟨m, v, xs, hg, hl, rfl⟩)
    · split
      · exact inv_put h ha _ (.inl rfl)
      · exact h
theorem onto_puts (q : List (Int × ByteArray)) : ∀ (f : Sec) (k : Nat), PSt.onto [1] f k q = PSt.puts f q := by
  induction q with
  | nil => intro f k; rfl
  | cons x q ih =>
    intro f k
    show PSt.onto [1] (PSt.fated f [1] k x) (k + 1) q = PSt.puts (PSt.put f x) q
    rw [ih]
    congr 1
    unfold PSt.fated
    rw [if_pos]
    unfold PSt.fate
    simp [Nat.mod_one, show Int.tmod 1 3 = 1 by decide]
theorem puts_other {q : List (Int × ByteArray)} {a : Int} : ∀ {f : Sec}, (∀ x ∈ q, x.1 ≠ a) → PSt.puts f q a = f a := by
  induction q with
  | nil => intro f _; rfl
  | cons x q ih =>
    intro f h
    show PSt.puts (PSt.put f x) q a = f a
    rw [ih (fun y hy => h y (by simp [hy]))]
    exact put_other f x.2 (fun e => h x (by simp) e.symm)
theorem puts_mem {q : List (Int × ByteArray)} {a : Int} {t : ByteArray} : ∀ {f : Sec}, (q.map (·.1)).Nodup → (a, t) ∈ q → PSt.puts f q a = some t := by
  induction q with
  | nil => intro f _ h; cases h
  | cons x q ih =>
    intro f hn h
    show PSt.puts (PSt.put f x) q a = some t
    rw [List.map_cons, List.nodup_cons] at hn
    rcases List.mem_cons.1 h with rfl | h
    · rw [puts_other (fun y hy e => hn.1 (List.mem_map.2 ⟨y, hy, e⟩))]
      exact put_same _ _ _
    · exact ih hn.2 h
theorem puts_append (f : Sec) (a b : List (Int × ByteArray)) : PSt.puts f (a ++ b) = PSt.puts (PSt.puts f a) b := by unfold PSt.puts; rw [List.foldl_append]

/-! ### Open -/
/-- The power went: what waits are homes. -/
structure Fallen (s s' : PSt) (next : List Pg) : Prop where
  dn : s'.down = true
  cn : s'.count = s.count
  ar : s'.armed = 0
  li : s'.life = s.life + 1
  a0 : s.acts ≤ s'.acts
  a1 : s'.acts ≤ s.acts + 6
  se : s'.secs = s.secs
  qu : QG s.secs next s'.queue 5
  un : s.armed ≠ 0
structure OSt (s s1 : PSt) (sure next : List Pg) (d : Bool) (ps : List Pg) (k : Nat) : Prop where
  went : Went s s1 0
  acts : s1.acts ≤ s.acts + k
  secs : s1.secs = s.secs
  qu : QG s.secs next s1.queue k
  dq : d = false → s1.queue = []
  ln : ps.length = k
  pg : ∀ n < k, ∃ x, ps[n]? = some x ∧ (sure[n]? = some x ∨ next[n]? = some x) ∧ HomeIs (PSt.puts s.secs s1.queue) n x

theorem QG.three {f : Sec} {next : List Pg} {q : List (Int × ByteArray)} {k : Nat} (h : QG f next q k) : ∀ x ∈ q, 3 ≤ x.1 := fun x hx => by
  obtain ⟨n, y, _, _, rfl, _⟩ := h x hx
  simp only [hm]
  omega
theorem QG.mono {f : Sec} {next : List Pg} {q : List (Int × ByteArray)} {k k' : Nat} (h : QG f next q k) (hk : k ≤ k') : QG f next q k' := fun x hx => by
  obtain ⟨n, y, a, b⟩ := h x hx
  exact ⟨n, y, by omega, b⟩
theorem QG.ne {f : Sec} {next : List Pg} {q : List (Int × ByteArray)} {k n : Nat} (h : QG f next q k) (hk : k ≤ n) : ∀ x ∈ q, x.1 ≠ hm n := fun x hx e => by
  obtain ⟨m, y, a, _, rfl, _⟩ := h x hx
  have := hm_inj e
  omega
theorem home_keep {f g : Sec} {n : Nat} {x : Pg} (h : f (hm n) = g (hm n)) (hx : HomeIs f n x) : HomeIs g n x := by unfold HomeIs at hx ⊢; rw [← h]; exact hx

theorem openN_rec {s : PSt} {sure next : List Pg} {i : Int} (h : Rec s.secs sure next i) (hd : s.down = false) (ha : 0 ≤ s.armed) (hc : s.count = 16) (hq : s.queue = []) :
    ∀ k ≤ 5, (∃ s', openN s 0 3 k = .inl (s', 10) ∧ Fallen s s' next) ∨ (∃ s1 d ps, openN s 0 3 k = .inr (s1, d, ps, true) ∧ OSt s s1 sure next d ps k) := by
  intro k
  induction k with
  | zero =>
    intro _
    refine .inr ⟨s, false, [], rfl, ⟨rfl, by omega, .inl ⟨rfl, hd, rfl, ha, fun h => h⟩⟩, by omega, rfl, ?_, fun _ => hq, rfl, fun n hn => by omega⟩
    rw [hq]
    intro x hx
    cases hx
  | succ k ih =>
    intro hk
    rcases ih (by omega) with ⟨s', e, hf⟩ | ⟨s1, d, ps, e, ho⟩
    · exact .inl ⟨s', by simp only [openN, e], hf⟩
    · obtain ⟨u1, u2, u3⟩ := ho.went.up
      have hrd : s1.read ((0 + 3 + k : Nat) : Int) = secR (s.secs (hm k)) := by
        rw [show ((0 + 3 + k : Nat) : Int) = hm k by unfold hm; omega, read_up u1 (by unfold hm; omega) (by rw [u3, hc]; unfold hm; omega) (ho.qu.ne (Nat.le_refl _)), ho.secs]
      have hcop : copP s1 0 3 k = copF s.secs k := by rw [copP_eq u1 (by rw [u3, hc]) ho.qu.three, ho.secs]
      -- nothing is written
      have keep : ∀ x : Pg, loadP s1 0 3 k d = (s1, d, some (true, x), 0) → (sure[k]? = some x ∨ next[k]? = some x) → HomeIs s.secs k x → ∃ s2 d2 ps2, openN s 0 3 (k + 1) = .inr (s2, d2, ps2, true) ∧ OSt s s2 sure next d2 ps2 (k + 1) := by
        intro x hl hx hh
        refine ⟨s1, d, ps ++ [x], by simp only [openN, e, hl, Bool.and_self], ho.went, by have := ho.acts; omega, ho.secs, ho.qu.mono (by omega), ho.dq, by rw [List.length_append, ho.ln]; rfl, fun n hn => ?_⟩
        by_cases e2 : n = k
        · subst e2
          refine ⟨x, by rw [List.getElem?_append_right (by rw [ho.ln]; omega), ho.ln]; simp, hx, home_keep (puts_other (ho.qu.ne (Nat.le_refl _))).symm hh⟩
        · obtain ⟨y, a, b⟩ := ho.pg n (by omega)
          exact ⟨y, by rw [List.getElem?_append_left (by rw [ho.ln]; omega)]; exact a, b⟩
      rcases h.home k (by omega) with ⟨x, hx, hh⟩ | ⟨ht, x, hx, hcx⟩
      · right
        refine keep x ?_ hx hh
        unfold loadP
        rcases hh with ⟨h1, rfl⟩ | ⟨h1, hg⟩
        · rw [hrd, h1]
          simp [secR, pgOf_zeros, zeros_allZ]
        · have hs := sectS_size (n := (k : Int)) hg
          rw [hrd, h1, secR_whole hs]
          simp only [pgOf_some hg rfl, if_true]
      · have hg := cop_good hcx
        obtain ⟨s2, r, e2, w2, a2, c2, q2⟩ := write_up u1 u2 (a := ((0 + 3 + k : Nat) : Int)) (t := sectS k x.1 x.2) (by omega) (by rw [u3, hc]; omega) (sectS_size hg)
        have hk2 : ((0 + 3 + k : Nat) : Int) = hm k := by unfold hm; omega
        have hl : loadP s1 0 3 k d = if r ≠ 0 then (s2, d, none, r) else (s2, true, some (true, x), 0) := by
          unfold loadP
          rw [hrd, ht, secR_torn, if_neg (by decide), hcop, hcx]
          simp only [e2]
        have hqg : QG s.secs next s2.queue (k + 1) := by
          rw [q2, hk2]
          intro z hz
          rcases List.mem_append.1 hz with hz | hz
          · exact ho.qu.mono (Nat.le_succ k) z hz
          · rw [List.mem_singleton.1 hz]
            exact ⟨k, x, by omega, hx, rfl, hcx⟩
        rcases w2.zero with rfl | rfl
        · right
          rw [if_neg (by simp)] at hl
          refine ⟨s2, true, ps ++ [x], by simp only [openN, e, hl, Bool.and_self], ho.went.trans w2, by have := ho.acts; omega, c2.trans ho.secs, hqg, fun h => (by cases h), by rw [List.length_append, ho.ln]; rfl, fun n hn => ?_⟩
          rw [q2, puts_append, hk2]
          by_cases e3 : n = k
          · subst e3
            refine ⟨x, by rw [List.getElem?_append_right (by rw [ho.ln]; omega), ho.ln]; simp, .inr hx, .inr ⟨put_same _ _ _, hg⟩⟩
          · obtain ⟨y, a, b, c⟩ := ho.pg n (by omega)
            exact ⟨y, by rw [List.getElem?_append_left (by rw [ho.ln]; omega)]; exact a, b, home_keep (put_other _ _ (fun h => e3 (hm_inj h))).symm c⟩
        · left
          rw [if_pos (by decide)] at hl
          have w3 := ho.went.trans w2
          obtain ⟨b1, b2, b3⟩ := w3
          rcases b3 with ⟨h0, _⟩ | ⟨_, d1, d2, d3, d4⟩
          · cases h0
          · exact ⟨s2, by simp only [openN, e, hl], d1, b1, d3, d2, b2, by have := ho.acts; omega, c2.trans ho.secs, hqg.mono (by omega), d4⟩

/-- Open, wherever the power goes. -/
theorem open_rec {s : PSt} {sure next : List Pg} {i : Int} (h : Rec s.secs sure next i) (hd : s.down = false) (ha : 0 ≤ s.armed) (hc : s.count = 16) (hq : s.queue = []) :
    (∃ s', openP s 0 3 5 = (s', none, 10) ∧ Fallen s s' next) ∨
    (∃ s' ps, openP s 0 3 5 = (s', some ps, 0) ∧ Went s s' 0 ∧ s'.acts ≤ s.acts + 6 ∧ s'.queue = [] ∧ Inv s'.secs ps i ∧ ∀ n < 5, ∃ x, ps[n]? = some x ∧ (sure[n]? = some x ∨ next[n]? = some x)) := by
  rcases openN_rec h hd ha hc hq 5 (Nat.le_refl _) with ⟨s', e, hf⟩ | ⟨s1, d, ps, e, ho⟩
  · exact .inl ⟨s', by unfold openP; rw [e], hf⟩
  · obtain ⟨u1, u2, u3⟩ := ho.went.up
    have hrec : Rec (PSt.puts s.secs s1.queue) sure next i := by
      rw [← onto_puts s1.queue s.secs 0]
      exact rec_onto [1] s1.queue s.secs 0 h ho.qu
    have hinv : Inv (PSt.puts s.secs s1.queue) ps i := ⟨ho.ln, fun n hn => by obtain ⟨x, a, _, c⟩ := ho.pg n hn; exact ⟨x, a, c⟩, hrec.twins, hrec.fu⟩
    have hpg : ∀ n < 5, ∃ x, ps[n]? = some x ∧ (sure[n]? = some x ∨ next[n]? = some x) := fun n hn => by obtain ⟨x, a, b, _⟩ := ho.pg n hn; exact ⟨x, a, b⟩
    cases d with
    | false =>
      have hq0 := ho.dq rfl
      rw [hq0] at hinv
      refine .inr ⟨s1, ps, by unfold openP; rw [e]; simp, ho.went, by have := ho.acts; omega, hq0, by rw [ho.secs]; exact hinv, hpg⟩
    | true =>
      obtain ⟨s2, r, e2, w2, a2, h2⟩ := sync_up u1 u2 (by omega)
      rcases h2 with ⟨rfl, b, c⟩ | ⟨rfl, b, c⟩
      · refine .inr ⟨s2, ps, by unfold openP; rw [e]; simp [e2], ho.went.trans w2, by have := ho.acts; omega, c, by rw [b, ho.secs]; exact hinv, hpg⟩
      · left
        have w3 := ho.went.trans w2
        obtain ⟨b1, b2, b3⟩ := w3
        rcases b3 with ⟨h0, _⟩ | ⟨_, d1, d2, d3, d4⟩
        · cases h0
        · exact ⟨s2, by unfold openP; rw [e]; simp [e2], d1, b1, d3, d2, b2, by have := ho.acts; omega, b.trans ho.secs, by rw [c]; exact ho.qu, d4⟩


theorem sectS_at {n l : Int} {xs : List Slt} (h : GoodP l xs) (h0 : 0 ≤ n) (h1 : n < 256) : (numsT (sectS n l xs))[247]? = some n := by
  unfold sectS
  rw [numsT_append, numsT_append, numsT_append, numsT_str (putB_range _ _), numsT_str (putB_range _ _)]
  have e1 : (numsT (encS l xs)).length = 240 := by rw [numsT_length, encS_size h]
  have e2 : (numsT pageT).length = 4 := rfl
  rw [List.getElem?_append_left (by rw [List.length_append, List.length_append, e1, e2, putB_length]; omega), List.getElem?_append_right (by rw [List.length_append, e1, e2]; omega), List.length_append, e1, e2]
  have hw : IntKind.u64.wrap n = n := by
    simp only [IntKind.wrap, IntKind.bits, IntKind.signed, Bool.false_and, Bool.false_eq_true, if_false]
    omega
  rw [hw]
  unfold putB byteAt
  simp
  omega
theorem sectS_num {n n' l l' : Int} {xs xs' : List Slt} (h : GoodP l xs) (h' : GoodP l' xs') (h0 : 0 ≤ n) (h1 : n < 256) (h0' : 0 ≤ n') (h1' : n' < 256) (e : sectS n l xs = sectS n' l' xs') : n = n' := by
  have a := sectS_at h h0 h1
  rw [e, sectS_at h' h0' h1'] at a
  exact (Option.some.inj a).symm
theorem wr1_get {ls : List LfM} {a : Nat} {m : LfM} (h : ls[a]? = some m) : ((a : Int), sectS m.n m.l m.xs) ∈ wr1 0 ls := by
  unfold wr1
  have ha := (List.getElem?_eq_some_iff.1 h)
  refine List.mem_mapIdx.2 ⟨a, ha.1, ?_⟩
  rw [ha.2]
  simp
theorem wr1_keys (ls : List LfM) : (wr1 0 ls).map (·.1) = (List.range ls.length).map (fun i : Nat => (i : Int)) := by
  apply List.ext_getElem
  · simp [wr1]
  · intro i h1 h2
    simp [wr1]
theorem wr1_nodup (ls : List LfM) : ((wr1 0 ls).map (·.1)).Nodup := by
  rw [wr1_keys]
  unfold List.Nodup
  rw [List.pairwise_map]
  exact (List.nodup_range (n := ls.length)).imp (fun h e => h (by omega))
theorem wr2_nodup {ls : List LfM} (h : (ls.map (·.n)).Nodup) : ((wr2 0 3 ls).map (·.1)).Nodup := by
  unfold wr2
  rw [List.map_map]
  unfold List.Nodup at h ⊢
  rw [List.pairwise_map] at h ⊢
  exact h.imp (fun h e => h (by simp at e; omega))
theorem nodup_at {ls : List LfM} (h : (ls.map (·.n)).Nodup) {a b : Nat} {m m' : LfM} (ha : ls[a]? = some m) (hb : ls[b]? = some m') (hab : a ≠ b) : m.n ≠ m'.n := by
  have a1 := List.getElem?_eq_some_iff.1 ha
  have b1 := List.getElem?_eq_some_iff.1 hb
  have := (List.pairwise_iff_getElem.1 h)
  rcases Nat.lt_or_gt_of_ne hab with hlt | hlt
  · have := this a b (by simpa using a1.1) (by simpa using b1.1) hlt
    simpa [a1.2, b1.2] using this
  · have := this b a (by simpa using b1.1) (by simpa using a1.1) hlt
    simp [a1.2, b1.2] at this
    exact fun e => this e.symm
theorem Inv.mono {f : Sec} {ps : List Pg} {i j : Int} (h : Inv f ps i) (hij : i ≤ j) : Inv f ps j := ⟨h.ln, h.home, fun a ha n hn x hx => Int.le_trans (h.twins a ha n hn x hx) hij, h.fu⟩

/-- The copies are laid: of each page to be, the best copy is it. -/
theorem cop_laid {f : Sec} {sure : List Pg} {i : Int} (h : Inv f sure i) {ls : List LfM} (hf : fitsP 5 ls = true) (hl3 : ls.length ≤ 3) (hlsn : ∀ m ∈ ls, m.l = i + 1) {a : Nat} {m : LfM} (hm' : ls[a]? = some m) : copF (PSt.puts f (wr1 0 ls)) m.n.toNat = some (m.l, m.xs) := by
  obtain ⟨g1, g2⟩ := fitsP_mem hf
  have ha := (List.getElem?_eq_some_iff.1 hm').1
  obtain ⟨c1, c2, c3⟩ := g1 m (List.mem_of_getElem? hm')
  have hN : ((m.n.toNat : Nat) : Int) = m.n := by omega
  have hg := goodP_iff.1 c3
  refine copF_max (a := a) (by omega) ?_ (fun j hj hja x hx => ?_)
  · unfold twF
    rw [puts_mem (wr1_nodup ls) (wr1_get hm')]
    show pgOf _ _ = _
    rw [hN]
    exact pgOf_some hg rfl
  · by_cases hjl : j < ls.length
    · exfalso
      obtain ⟨m', hj'⟩ : ∃ m', ls[j]? = some m' := ⟨_, List.getElem?_eq_getElem hjl⟩
      unfold twF at hx
      rw [puts_mem (wr1_nodup ls) (wr1_get hj')] at hx
      obtain ⟨d1, d2, d3⟩ := g1 m' (List.mem_of_getElem? hj')
      obtain ⟨k1, k2⟩ := pgOf_spec (l := x.1) (xs := x.2) hx
      have := sectS_num k1 (goodP_iff.1 d3) (by omega) (by omega) d1 (by omega) k2
      exact nodup_at g2 hm' hj' (fun e => hja e.symm) (by omega)
    · have : PSt.puts f (wr1 0 ls) (j : Int) = f (j : Int) := puts_other (fun y hy e => by
        have : y.1 ∈ (wr1 0 ls).map (·.1) := List.mem_map.2 ⟨y, hy, rfl⟩
        rw [wr1_keys] at this
        obtain ⟨b, hb, e2⟩ := List.mem_map.1 this
        have := List.mem_range.1 hb
        omega)
      unfold twF at hx
      rw [this] at hx
      have := h.twins j hj m.n.toNat (by omega) x hx
      have := hlsn m (List.mem_of_getElem? hm')
      show x.1 < m.l
      omega

/-- Write, wherever the power goes. -/
theorem write_rec {s : PSt} {sure : List Pg} {i : Int} (h : Inv s.secs sure i) (hd : s.down = false) (ha : 0 ≤ s.armed) (hc : s.count = 16) (hq : s.queue = []) {ls : List LfM} (hf : fitsP 5 ls = true) (hl3 : ls.length ≤ 3) (hlsn : ∀ m ∈ ls, m.l = i + 1) :
    ∃ d' s' pgs' r, twWrite false s s.life 0 3 sure ls = (d', s', pgs', r) ∧ Went s s' r ∧ s'.acts ≤ s.acts + 8 ∧ s.acts ≤ s'.acts ∧
      ((r = 0 ∧ d' = false ∧ pgs' = laidP sure ls ∧ s'.queue = [] ∧ Inv s'.secs (laidP sure ls) (i + 1)) ∨ (r = 10 ∧ pgs' = sure ∧ ∀ l, Rec (PSt.onto l s'.secs 0 s'.queue) sure (laidP sure ls) (i + 1))) := by
  obtain ⟨g1, g2⟩ := fitsP_mem hf
  have hr : tRdy false s s.life = 0 := by unfold tRdy; rw [if_neg]; simp [hd]
  have hln : (laidP sure ls).length = 5 := by rw [laidP_length, h.ln]
  have hnf : ¬ (fitsP sure.length ls = false ∨ 3 < ls.length) := by rw [h.ln, hf]; simp; omega
  have hi1 := h.mono (show i ≤ i + 1 by omega)
  by_cases hz : ls.length = 0
  · refine ⟨false, s, sure, 0, ?_, ⟨rfl, by omega, .inl ⟨rfl, hd, rfl, ha, fun h => h⟩⟩, by omega, by omega, .inl ⟨rfl, rfl, ?_, hq, ?_⟩⟩
    · unfold twWrite
      rw [hr, if_neg (by simp), if_neg hnf, if_pos hz]
    · obtain rfl := List.length_eq_zero_iff.1 hz; rfl
    · obtain rfl := List.length_eq_zero_iff.1 hz; exact hi1
  · have hA : ∀ x ∈ wr1 0 ls, 0 ≤ x.1 ∧ x.1 < s.count ∧ x.2.size = 256 := by
      intro x hx
      obtain ⟨k, m, hm', rfl⟩ := wr1_mem hx
      have hk := (List.getElem?_eq_some_iff.1 hm').1
      exact ⟨by show (0 : Int) ≤ ((0 + k : Nat) : Int); omega, by show ((0 + k : Nat) : Int) < _; omega, sectS_size (goodP_iff.1 (g1 m (List.mem_of_getElem? hm')).2.2)⟩
    have hQT : QT (wr1 0 ls) (i + 1) := by
      intro x hx
      obtain ⟨k, m, hm', rfl⟩ := wr1_mem hx
      have hk := (List.getElem?_eq_some_iff.1 hm').1
      exact ⟨k, m.n, m.l, m.xs, by omega, goodP_iff.1 (g1 m (List.mem_of_getElem? hm')).2.2, by rw [hlsn m (List.mem_of_getElem? hm')]; omega, by rw [Nat.zero_add]⟩
    obtain ⟨s1, r1, e1, w1, a1, q1⟩ := layS_up (wr1 0 ls) s hd ha (by omega) hA
    rw [wr1_length] at a1
    rcases q1 with ⟨rfl, b1, c1⟩ | ⟨rfl, b1, j, c1⟩
    · rw [hq, List.nil_append] at b1
      have hI1 : Inv s1.secs sure (i + 1) := by
        rw [b1, ← onto_puts _ _ 0]
        exact inv_onto [1] _ _ 0 hi1 hQT
      obtain ⟨u1, u2, u3⟩ := w1.up
      have hB : ∀ x ∈ wr2 0 3 ls, 0 ≤ x.1 ∧ x.1 < s1.count ∧ x.2.size = 256 := by
        intro x hx
        obtain ⟨m, hm', rfl⟩ := wr2_mem hx
        obtain ⟨a, b, c⟩ := g1 m hm'
        exact ⟨by show (0 : Int) ≤ ((0 : Nat) : Int) + ((3 : Nat) : Int) + m.n; omega, by show ((0 : Nat) : Int) + ((3 : Nat) : Int) + m.n < _; omega, sectS_size (goodP_iff.1 c)⟩
      have hkey : ∀ m ∈ ls, ((0 : Nat) : Int) + ((3 : Nat) : Int) + m.n = hm m.n.toNat := fun m hm' => by have := (g1 m hm').1; unfold hm; omega
      have hQG : QG s1.secs (laidP sure ls) (wr2 0 3 ls) 5 := by
        intro x hx
        obtain ⟨m, hm', rfl⟩ := wr2_mem hx
        obtain ⟨a, b, c⟩ := g1 m hm'
        obtain ⟨k, hk⟩ := List.getElem?_of_mem hm'
        have hN : ((m.n.toNat : Nat) : Int) = m.n := by omega
        refine ⟨m.n.toNat, (m.l, m.xs), by omega, laidP_get (by rw [h.ln]; exact hf) hk, ?_, by rw [b1]; exact cop_laid h hf hl3 hlsn hk⟩
        rw [hkey m hm', hN]
      obtain ⟨s2, r2, e2, w2, a2, q2⟩ := layS_up (wr2 0 3 ls) s1 u1 u2 (by omega) hB
      rw [wr2_length] at a2
      have hrec1 := hI1.rec_ hln
      rcases q2 with ⟨rfl, b2, c2⟩ | ⟨rfl, b2, j, c2⟩
      · refine ⟨false, s2, laidP sure ls, 0, ?_, w1.trans w2, by omega, (w1.trans w2).2.1, .inl ⟨rfl, rfl, rfl, c2, ?_⟩⟩
        · unfold twWrite
          rw [hr, if_neg (by simp), if_neg hnf, if_neg hz, e1]
          simp only [ne_eq, not_true_eq_false, if_false, e2]
        · rw [c1, List.nil_append] at b2
          have hrec2 : Rec s2.secs sure (laidP sure ls) (i + 1) := by
            rw [b2, ← onto_puts _ _ 0]
            exact rec_onto [1] _ _ 0 hrec1 hQG
          refine ⟨hln, fun n hn => ?_, hrec2.twins, hrec2.fu⟩
          by_cases hex : ∃ m ∈ ls, m.n.toNat = n
          · obtain ⟨m, hm', rfl⟩ := hex
            obtain ⟨a, b, c⟩ := g1 m hm'
            obtain ⟨k, hk⟩ := List.getElem?_of_mem hm'
            have hN : ((m.n.toNat : Nat) : Int) = m.n := by omega
            refine ⟨(m.l, m.xs), laidP_get (by rw [h.ln]; exact hf) hk, .inr ⟨?_, goodP_iff.1 c⟩⟩
            rw [b2, hN]
            refine puts_mem (wr2_nodup g2) ?_
            unfold wr2
            refine List.mem_map.2 ⟨m, hm', ?_⟩
            rw [hkey m hm']
          · obtain ⟨x, e, hx⟩ := hI1.home n hn
            refine ⟨x, by rw [laidP_other _ _ _ (fun m hm' e => hex ⟨m, hm', e⟩)]; exact e, ?_⟩
            rw [b2]
            refine home_keep (puts_other (fun y hy e3 => ?_)).symm hx
            obtain ⟨m, hm', rfl⟩ := wr2_mem hy
            rw [hkey m hm'] at e3
            exact hex ⟨m, hm', hm_inj e3⟩
      · refine ⟨true, s2, sure, 10, ?_, w1.trans w2, by omega, (w1.trans w2).2.1, .inr ⟨rfl, rfl, fun l => ?_⟩⟩
        · unfold twWrite
          rw [hr, if_neg (by simp), if_neg hnf, if_neg hz, e1]
          simp only [ne_eq, not_true_eq_false, if_false, e2]
          rfl
        · rw [b2, c2, c1, List.nil_append]
          exact rec_onto l _ _ 0 hrec1 (fun x hx => hQG x (List.mem_of_mem_take hx))
    · refine ⟨true, s1, sure, 10, ?_, w1, by omega, w1.2.1, .inr ⟨rfl, rfl, fun l => ?_⟩⟩
      · unfold twWrite
        rw [hr, if_neg (by simp), if_neg hnf, if_neg hz, e1]
        rfl
      · rw [b1, c1, hq, List.nil_append]
        exact (inv_onto l _ _ 0 hi1 (fun x hx => hQT x (List.mem_of_mem_take hx))).rec_ hln

end Go.Proofs.YtbikplckehbcnaaDoor
