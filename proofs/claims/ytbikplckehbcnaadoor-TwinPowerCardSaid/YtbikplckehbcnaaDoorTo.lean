/- twin.Store, by what is behind its blocks: each method by what it comes to. -/
import Derived.Test.YtbikplckehbcnaaDoorGreat
set_option linter.unusedVariables false
set_option linter.unusedSimpArgs false
namespace Go.Proofs.YtbikplckehbcnaaDoor
open Go Go.RowKit

theorem Store.plate {lo : Nat} {w : World} {q p frm tw : Nat} {life : Int} {dead : Bool} {s : PSt} {pgs : List (Int × List Slt)} (h : Store lo w q p frm tw life dead s pgs) : PlateLo lo w p s := by
  obtain ⟨F, pv, ps, h, _⟩ := h
  exact ⟨F, h.pl, h.fl⟩

/-- Read of the plate: what is below the world's blocks is as it was. -/
theorem pread_to (lo : Nat) (w : World) (p : Nat) (s : PSt) (n : Int) (t : ByteArray) (r : Int) (ev : s.read n = (t, r)) (h : PlateLo lo w p s) (h3 : s.acts < 1099511627776) :
    Calls Tryd.prog 33 #[.pointer (some ⟨p, 0, none⟩), .int .i64 n] w fun e w' => e = .returned (.tuple #[.string t, .int .i64 r]) ∧ Below w.heap.size w w' := by
  obtain ⟨F, hp, hF⟩ := h
  refine (read_any w F p s n hp h3).mono ?_
  rw [ev]
  exact fun e w' h => h

/-- Write; the leaves lie below lo, or are newer than w0. -/
theorem twrite_to {lo : Nat} (w0 w : World) {q p frm tw : Nat} {life : Int} {dead : Bool} {s : PSt} {pgs : List (Int × List Slt)} (h : Store lo w0 q p frm tw life dead s pgs) (hb : Below w0.heap.size w0 w)
    (A : Option Addr) (c : Nat) (ls : List LfM) (hl : Leaves w (fun k => lo ≤ k ∧ k < w0.heap.size) A ls) (hlen : ls.length ≤ 17592186044416)
    (h1 : frm ≤ 16384) (h2 : tw ≤ 64) (hps : pgs.length ≤ 65536) (hlife : s.life < 1000000) (hacts : s.acts < 1000000) (dead' : Bool) (s' : PSt) (pgs' : List (Int × List Slt)) (r : Int) (ev : twWrite dead s life frm tw pgs ls = (dead', s', pgs', r)) :
    Calls Tryd.prog 13 #[.pointer (some ⟨q, 0, none⟩), .slice A ls.length c] w fun e w' => e = .returned (.int .i64 r) ∧ Store lo w' q p frm tw life dead' s' pgs' ∧ Below lo w w' := by
  obtain ⟨F, pv, ps, h, rfl⟩ := h
  have hG : ∀ k, (F k ∨ k = q ∨ pv.ownBlock = some k) → lo ≤ k ∧ k < w0.heap.size := by
    intro k hk
    rcases hk with hk | rfl | hk
    · exact h.fl k hk
    · exact ⟨h.lq, h.st.lt⟩
    · exact h.pg.lt k hk
  have hlo := h.lt
  refine (twrite_at w (h.below hb) _ hG A c ls hl hlen h1 h2 (by simpa using hps) hlife hacts).mono ?_
  rintro e w' ⟨dead2, s2, ps2, r2, F2, ev2, rfl, hS, hF, _⟩
  rw [ev] at ev2
  obtain ⟨rfl, rfl, rfl, rfl⟩ : dead' = dead2 ∧ s' = s2 ∧ pgs' = ps2.map PgM.pg ∧ r = r2 := by simpa using ev2
  exact ⟨rfl, ⟨F2, pv, ps2, hS, rfl⟩, hF.toBelow (Nat.le_trans hlo hb.size) (fun k hk => (hG k hk).1)⟩

theorem tread_to {lo : Nat} (w : World) {q p frm tw : Nat} {life : Int} {dead : Bool} {s : PSt} {pgs : List (Int × List Slt)} (h : Store lo w q p frm tw life dead s pgs) (n : Int) (hlen : pgs.length ≤ 65536) :
    Calls Tryd.prog 16 #[.pointer (some ⟨q, 0, none⟩), .int .i64 n] w fun e w' => (∃ v, e = .returned v ∧ TReadIs w w' (tRdy dead s life) n pgs v) ∧ Below w.heap.size w w' := by
  obtain ⟨F, pv, ps, h, rfl⟩ := h
  exact tread_at w h n (by simpa using hlen)
/-- Read of a page that is there, the power on. -/
theorem tread_ok {lo : Nat} (w : World) {q p frm tw : Nat} {life : Int} {dead : Bool} {s : PSt} {pgs : List (Int × List Slt)} (h : Store lo w q p frm tw life dead s pgs) (hr : tRdy dead s life = 0) (k : Nat) (l : Int) (xs : List Slt) (hk : pgs[k]? = some (l, xs)) (hlen : pgs.length ≤ 65536) :
    Calls Tryd.prog 16 #[.pointer (some ⟨q, 0, none⟩), .int .i64 (k : Int)] w fun e w' => (∃ A c, e = .returned (.tuple #[.agg #[.int .i64 l, .slice A xs.length c], .int .i64 0]) ∧ Slots w' (fun k => k < w.heap.size) A xs) ∧ Below w.heap.size w w' := by
  refine (tread_to w h k hlen).mono ?_
  rintro e w' ⟨⟨v, rfl, hv⟩, hb⟩
  have hlt := (List.getElem?_eq_some_iff.1 hk).1
  refine ⟨?_, hb⟩
  rcases hv with ⟨h1, _⟩ | ⟨_, h1, _⟩ | ⟨_, k', l', xs', A, c, e, hk', rfl, hs⟩
  · exact absurd hr h1
  · rcases h1 with h1 | h1 <;> omega
  · obtain rfl : k = k' := by omega
    rw [hk] at hk'
    obtain ⟨rfl, rfl⟩ : l = l' ∧ xs = xs' := by simpa using hk'
    exact ⟨A, c, rfl, hs⟩

end Go.Proofs.YtbikplckehbcnaaDoor
