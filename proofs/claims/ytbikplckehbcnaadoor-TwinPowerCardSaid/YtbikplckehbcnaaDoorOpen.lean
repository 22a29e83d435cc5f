/- twin.Open, on a plate that was never written. -/
import Derived.Test.YtbikplckehbcnaaDoorLoad
set_option linter.unusedVariables false
set_option linter.unusedSimpArgs false
namespace Go.Proofs.YtbikplckehbcnaaDoor
open Go Go.RowKit

set_option maxRecDepth 100000 in
set_option maxHeartbeats 4000000 in
theorem open0_at {lo : Nat} (w : World) {p : Nat} {s : PSt} (hp : PlateLo lo w p s) (frm tw np : Nat) (h1 : 1 ≤ tw ∧ tw ≤ 64) (h2 : 1 ≤ np ∧ np ≤ 1024) (h3 : (frm : Int) + tw + np ≤ s.count) (hd : s.down = false) (hac : s.acts < 1000000) (hrd : ∀ n : Nat, n < np → s.read ((frm + tw + n : Nat) : Int) = (PSt.zeros, 0)) :
    Calls Tryd.prog 12 #[.pointer (some ⟨p, 0, none⟩), .int .i64 (frm : Int), .int .i64 (tw : Int), .int .i64 (np : Int)] w fun e w' => ∃ q, e = .returned (.tuple #[.pointer (some ⟨q, 0, none⟩), .int .i64 0]) ∧ Store lo w' q p frm tw s.life false s (List.replicate np (0, [])) ∧ Below lo w w' := by
  obtain ⟨F, hF, hFl⟩ := hp
  have HF := Lib.hid hF
  have HFL := Lib.hid hFl
  have HRD := Lib.hid hrd
  have hc2 := hF.ok.c2
  have hl0 := hF.ok.l0
  clear hF hFl hrd
  go_enter Tryd.func12, Tryd.ntmps12
  go_wp2_with fail
  refine (sectors_is w F p s HF.out).mono ?_
  rintro e w' ⟨rfl, rfl⟩
  have hw1 : wrap64 (s.count - (tw : Int)) = s.count - tw := by unfold wrap64; omega
  have hw2 : wrap64 (s.count - (tw : Int) - (np : Int)) = s.count - tw - np := by unfold wrap64; omega
  go_wp2_with fail
  refine (down_is w F p s HF.out).mono ?_
  rw [hd]
  rintro e w' ⟨rfl, rfl⟩
  go_wp2_with fail
  refine (life_is w F p s HF.out).mono ?_
  rintro e w' ⟨rfl, rfl⟩
  go_wp2_with fail
  have hlo : lo ≤ w.heap.size := by obtain ⟨m, qv, nn, D, hP, _, _, hFp, _⟩ := HF.out; have := HFL.out p hFp; omega
  have H0 : Hid (StAt lo (w.alloc (.cells #[.pointer (some ⟨p, 0, none⟩), .int .i64 (frm : Int), .int .i64 (tw : Int), .slice none 0 0, .int .i64 s.life, .bool false] 84)) F w.heap.size p (.slice none 0 0) frm tw s.life false s []) :=
    ⟨Blk.new w _ _, World.ownsRow_nil _ _ _ _, HF.out.fr ((Fr.refl Nope w).alloc _) (fun _ _ h => h), fun k hk => ⟨(HFL.out k hk).1, by have := (HFL.out k hk).2; simp; omega⟩, hlo, fun hk => by have := (HFL.out _ hk).2; omega, fun g hg => by simp [Value.ownBlock] at hg, fun m hm => by simp at hm⟩
  have HB0 := Lib.hid ((Below.refl lo w).alloc hlo (.cells #[.pointer (some ⟨p, 0, none⟩), .int .i64 (frm : Int), .int .i64 (tw : Int), .slice none 0 0, .int .i64 s.life, .bool false] 84))
  go_loopw [11, 59] (fun b i wr => ∃ (k : Nat) (pv : Value), b = .bool true ∧ i = .int .i64 k ∧ k ≤ np ∧ Hid (StAt lo wr F w.heap.size p pv frm tw s.life false s (List.replicate k ⟨0, none, 0, []⟩) ∧ Below lo w wr)) (fun _ i _ => np - (intOf i).toNat)
  case atStart => exact ⟨0, _, rfl, rfl, by omega, H0.out, HB0.out⟩
  case round =>
    obtain ⟨k, pv, rfl, rfl, hk, hS⟩ := hrel
    by_cases hlt : k < np
    · go_wp2_with fail
      refine (load0_at _ hS.out.1 k (by omega) (by omega) (by omega) (by rw [List.length_replicate]; omega) hac (HRD.out k hlt)).mono ?_
      rintro e w1 ⟨rfl, pv', h9, b9⟩
      have H9 := Lib.hid h9
      have HB9 := Lib.hid (hS.out.2.trans b9)
      clear h9 b9
      go_wp2_with fail
      go_roundw
      case rel => exact ⟨k + 1, pv', rfl, by go_num, by omega, by rw [List.replicate_succ']; exact H9.out, HB9.out⟩
      case measure => simp [intOf]; omega
    · obtain rfl : k = np := by omega
      have hq5 := hS.out.1.st.cell 5
      have hqf := hS.out.1.st.frozen 5
      simp only [List.getElem?_toArray] at hq5
      go_wp2_with fail
      go_ret2
      have hfin := hS.out.1.mark false
      exact ⟨_, rfl, ⟨F, pv, _, hfin, by simp [PgM.pg]⟩, hS.out.2.setCell (p := ⟨w.heap.size, 5, none⟩) hlo _⟩

end Go.Proofs.YtbikplckehbcnaaDoor
