/- seneschallaw08.great: it answers, and touches nothing. -/
import Derived.Test.YtbikplckehbcnaaDoorOpen
set_option linter.unusedVariables false
set_option linter.unusedSimpArgs false
namespace Go.Proofs.YtbikplckehbcnaaDoor
open Go Go.RowKit

/-- An act as it lies in memory: its leaves, and how many fates it has. -/
structure AcM where
  A : Option Addr
  c : Nat
  ls : List LfM
  fA : Option Addr
  fn : Nat
  fc : Nat
/-- The acts lie at ⟨b, 0⟩; of their leaves what 'great' looks at. -/
def Acts (w : World) (b : Nat) (acts : List AcM) : Prop :=
  b < w.heap.size ∧ ∀ (j : Nat) (m : AcM), acts[j]? = some m → w.cell? ⟨b, j * 5 + 3, none⟩ = some (.slice m.A m.ls.length m.c) ∧ w.cell? ⟨b, j * 5 + 4, none⟩ = some (.slice m.fA m.fn m.fc) ∧ m.ls.length ≤ 4611686018427387904 ∧ m.fn ≤ 4611686018427387904 ∧ Leaves w (fun k => w.heap.size ≤ k) m.A m.ls

set_option maxRecDepth 100000 in
set_option maxHeartbeats 4000000 in
theorem great_any (w : World) (b c : Nat) (acts : List AcM) (ha : Acts w b acts) (hlen : acts.length ≤ 1000) :
    Calls Tryd.prog 10 #[.slice (some ⟨b, 0, none⟩) acts.length c] w fun e w' => (e = .returned (.bool false) ∨ e = .returned (.bool true)) ∧ Below w.heap.size w w' := by
  have HA := Lib.hid ha
  clear ha
  go_enter Tryd.func10, Tryd.ntmps10
  go_wp2_with fail
  go_loopw [3] (fun i wr => ∃ k : Nat, i = .int .i64 k ∧ k ≤ acts.length ∧ Below w.heap.size w wr) (fun i _ => acts.length - (intOf i).toNat)
  case atStart => exact ⟨0, rfl, by omega, Below.refl _ _⟩
  case round =>
    obtain ⟨k, rfl, hk, hB⟩ := hrel
    by_cases hlt : k < acts.length
    · by_cases h40 : k < 40
      · obtain ⟨m, hm⟩ : ∃ m, acts[k]? = some m := ⟨_, List.getElem?_eq_getElem hlt⟩
        obtain ⟨hc3, hc4, hml, hmf, hlv⟩ := HA.out.2 k m hm
        have hd3 : wr.cell? ⟨b, k * 5 + 3, none⟩ = some (.slice m.A m.ls.length m.c) := (hB.cell (p := ⟨b, k * 5 + 3, none⟩) HA.out.1).trans hc3
        have hd4 : wr.cell? ⟨b, k * 5 + 4, none⟩ = some (.slice m.fA m.fn m.fc) := (hB.cell (p := ⟨b, k * 5 + 4, none⟩) HA.out.1).trans hc4
        have HLV := Lib.hid hlv
        have HM := Lib.hid hm
        clear hc3 hc4 hlv hm
        obtain ⟨Am, cm, ls, fA, fn, fc⟩ := m
        have hml : ls.length ≤ 4611686018427387904 := hml
        have hmf : fn ≤ 4611686018427387904 := hmf
        by_cases hb1 : 20 < ls.length
        · go_wp2_with fail
          go_ret
          exact ⟨.inr rfl, hB⟩
        · by_cases hb2 : 1000 < fn
          · go_wp2_with fail
            go_ret
            exact ⟨.inr rfl, hB⟩
          · go_wp2_with fail
            go_loopw [4] (fun i wx => ∃ j : Nat, i = .int .i64 j ∧ j ≤ ls.length ∧ Below w.heap.size w wx) (fun i _ => ls.length - (intOf i).toNat)
            case atStart => exact ⟨0, rfl, by omega, hB⟩
            case round =>
              have HD3 := Lib.hid (HA.out.2 k _ HM.out).1
              clear hd3 hd4 hB
              obtain ⟨j, rfl, hj, hB⟩ := hrel
              have hd3 := (hB.cell (p := ⟨b, k * 5 + 3, none⟩) HA.out.1).trans HD3.out
              by_cases hjl : j < ls.length
              · obtain ⟨y, hy⟩ : ∃ y, ls[j]? = some y := ⟨_, List.getElem?_eq_getElem hjl⟩
                obtain ⟨b2, off, rfl, hb2w, _, hcl⟩ := HLV.out (by omega)
                obtain ⟨_, _, hl2, _, hyl, hys⟩ := hcl j y hy
                have he2 := (hB.cell (p := ⟨b2, off + j * 3 + 2, none⟩) hb2w).trans hl2
                have HYS := Lib.hid hys
                have HE2 := Lib.hid hl2
                have HD32 := Lib.hid HD3.out
                clear hcl hl2 hys hy
                obtain ⟨n, l, Ay, cy, xs⟩ := y
                have hyl : xs.length ≤ 4611686018427387904 := hyl
                by_cases hb5 : 50 < xs.length
                · go_wp2_with fail
                  go_ret
                  exact ⟨.inr rfl, hB⟩
                · go_wp2_with fail
                  go_loopw [5] (fun i wx => ∃ v : Nat, i = .int .i64 v ∧ v ≤ xs.length ∧ Below w.heap.size w wx) (fun i _ => xs.length - (intOf i).toNat)
                  case atStart => exact ⟨0, rfl, by omega, hB⟩
                  case round =>
                    clear hd3 he2 hB
                    obtain ⟨v, rfl, hv, hB⟩ := hrel
                    have hd3 := (hB.cell (p := ⟨b, k * 5 + 3, none⟩) HA.out.1).trans HD32.out
                    have he2 := (hB.cell (p := ⟨b2, off + j * 3 + 2, none⟩) hb2w).trans HE2.out
                    by_cases hvl : v < xs.length
                    · obtain ⟨z, hz⟩ : ∃ z, xs[v]? = some z := ⟨_, List.getElem?_eq_getElem hvl⟩
                      obtain ⟨b3, off3, rfl, hb3w, _, hcz⟩ := HYS.out (by show 0 < xs.length; omega)
                      obtain ⟨_, hz2, hzm⟩ := hcz v z hz
                      have hg2 := (hB.cell (p := ⟨b3, off3 + v * 2 + 1, none⟩) hb3w).trans hz2
                      clear hcz hz2 hz
                      obtain ⟨u, t⟩ := z
                      by_cases hbt : 1000 < t.size
                      · go_wp2_with fail
                        go_ret
                        exact ⟨.inr rfl, hB⟩
                      · go_wp2_with fail
                        go_roundw
                        case rel => exact ⟨v + 1, by go_num, by omega, hB⟩
                        case measure => simp [intOf]; omega
                    · obtain rfl : v = xs.length := by omega
                      go_wp2_with fail
                      go_roundw
                      case rel => exact ⟨j + 1, by go_num, by omega, hB⟩
                      case measure => simp [intOf]; omega
              · obtain rfl : j = ls.length := by omega
                go_wp2_with fail
                go_roundw
                case rel => exact ⟨k + 1, by go_num, by omega, hB⟩
                case measure => simp [intOf]; omega
      · go_wp2_with fail
        go_ret
        exact ⟨.inl rfl, hB⟩
    · go_wp2_with fail
      go_ret
      exact ⟨.inl rfl, hB⟩

end Go.Proofs.YtbikplckehbcnaaDoor
