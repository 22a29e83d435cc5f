/- The plate's state as plain data, and what its methods do to it. -/
import Derived.Test.YtbikplckehbcnaaDoorBase
set_option linter.unusedVariables false
set_option linter.unusedSimpArgs false
namespace Go.Proofs.YtbikplckehbcnaaDoor

/-- A plate: how many sectors, what they hold (none: never written; the empty text: torn), what waits, the power. -/
structure PSt where
  count : Int
  secs : Int → Option ByteArray
  queue : List (Int × ByteArray)
  down : Bool
  acts : Int
  armed : Int
  life : Int

namespace PSt
def rdy (s : PSt) (n : Int) : Int := if s.down = true then 10 else if n < 0 then 1 else if s.count ≤ n then 1 else 0
def off (s : PSt) : PSt := if s.down = true then s else { s with down := true, armed := 0, life := s.life + 1 }
/-- An act is done: the state behind it, and the error. -/
def act (s : PSt) : PSt × Int :=
  if 0 < s.armed then
    if s.armed = 1 then (({ s with acts := s.acts + 1, armed := 0 } : PSt).off, 10) else ({ s with acts := s.acts + 1, armed := s.armed - 1 }, 0)
  else ({ s with acts := s.acts + 1 }, 0)
def write (s : PSt) (n : Int) (t : ByteArray) : PSt × Int :=
  if s.rdy n ≠ 0 then (s, s.rdy n) else if t.size ≠ 256 then (s, 1) else ({ s with queue := s.queue ++ [(n, t)] } : PSt).act
def put (f : Int → Option ByteArray) (x : Int × ByteArray) : Int → Option ByteArray := fun k => if k = x.1 then some x.2 else f k
def puts (f : Int → Option ByteArray) (l : List (Int × ByteArray)) : Int → Option ByteArray := l.foldl put f
def sync (s : PSt) : PSt × Int :=
  if s.rdy 0 ≠ 0 then (s, s.rdy 0) else if s.act.2 ≠ 0 then s.act else ({ s.act.1 with secs := puts s.secs s.queue, queue := [] }, 0)
def last (l : List (Int × ByteArray)) (n : Int) : Option ByteArray := (l.reverse.find? fun x => x.1 == n).map (·.2)
def zeros : ByteArray := ⟨(List.replicate 256 (0 : UInt8)).toArray⟩
def read (s : PSt) (n : Int) : ByteArray × Int :=
  if s.rdy n ≠ 0 then (ByteArray.empty, s.rdy n) else
    match last s.queue n with
    | some t => (t, 0)
    | none => match s.secs n with
      | none => (zeros, 0)
      | some t => if t.size = 0 then (ByteArray.empty, 20) else (t, 0)
/-- The fate of the i-th write that waits. -/
def fate (l : List Int) (i : Nat) : Int :=
  if l.length = 0 then 0 else
    let f := (l.getD (i % l.length) 0).tmod 3
    if f < 0 then f + 3 else f
def fated (f : Int → Option ByteArray) (l : List Int) (i : Nat) (x : Int × ByteArray) : Int → Option ByteArray :=
  if fate l i = 1 then put f x else if fate l i = 2 then put f (x.1, ByteArray.empty) else f
def onto (l : List Int) : (Int → Option ByteArray) → Nat → List (Int × ByteArray) → Int → Option ByteArray
  | f, _, [] => f
  | f, i, x :: r => onto l (fated f l i x) (i + 1) r
def on (s : PSt) (l : List Int) : PSt := if s.down = true then { s with down := false, secs := onto l s.secs 0 s.queue, queue := [] } else s
def arm (s : PSt) (n : Int) : PSt := { s with armed := if n < 0 then 0 else n }
def fresh (n : Int) : PSt := { count := min (max n 1) 16384, secs := fun _ => none, queue := [], down := false, acts := 0, armed := 0, life := 0 }

/-- What holds of a plate's state whatever was done. -/
structure Ok (s : PSt) : Prop where
  c1 : 1 ≤ s.count
  c2 : s.count ≤ 16384
  a0 : 0 ≤ s.armed
  a1 : s.armed ≤ 9223372036854775807
  n0 : 0 ≤ s.acts
  l0 : 0 ≤ s.life
  que : ∀ x ∈ s.queue, 0 ≤ x.1 ∧ x.1 < s.count ∧ x.2.size = 256

theorem ok_off {s : PSt} (h : s.Ok) : s.off.Ok := by
  unfold off
  split
  · exact h
  · exact ⟨h.c1, h.c2, by simp, by simp, h.n0, by have := h.l0; simp; omega, h.que⟩
theorem off_queue (s : PSt) : s.off.queue = s.queue := by unfold off; split <;> rfl
theorem off_secs (s : PSt) : s.off.secs = s.secs := by unfold off; split <;> rfl
theorem off_acts (s : PSt) : s.off.acts = s.acts := by unfold off; split <;> rfl
theorem off_life (s : PSt) (h : s.Ok) : s.life ≤ s.off.life ∧ s.off.life ≤ s.life + 1 := by unfold off; split <;> simp <;> omega
theorem ok_act {s : PSt} (h : s.Ok) : s.act.1.Ok := by
  have h1 := h.a0; have h2 := h.a1; have h3 := h.n0
  unfold act
  split
  · split
    · exact ok_off ⟨h.c1, h.c2, by simp, by simp, by simp; omega, h.l0, h.que⟩
    · exact ⟨h.c1, h.c2, by simp; omega, by simp; omega, by simp; omega, h.l0, h.que⟩
  · exact ⟨h.c1, h.c2, h1, h2, by simp; omega, h.l0, h.que⟩
theorem act_queue (s : PSt) : s.act.1.queue = s.queue := by unfold act; split <;> (try split) <;> simp [off_queue]
theorem act_secs (s : PSt) : s.act.1.secs = s.secs := by unfold act; split <;> (try split) <;> simp [off_secs]
theorem act_acts (s : PSt) : s.act.1.acts = s.acts + 1 := by unfold act; split <;> (try split) <;> simp [off_acts]
theorem act_life (s : PSt) (h : s.Ok) : s.life ≤ s.act.1.life ∧ s.act.1.life ≤ s.life + 1 := by
  unfold act off
  split <;> (try split) <;> (try split) <;> simp <;> omega

end PSt

end Go.Proofs.YtbikplckehbcnaaDoor
