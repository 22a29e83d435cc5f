/- twin.Store: fits. -/
import Derived.Test.YtbikplckehbcnaaDoorSeen
import Derived.StillTailTactics
import Derived.Deep.QuietTactic
set_option linter.unusedVariables false
set_option linter.unusedSimpArgs false
namespace Go.Proofs.YtbikplckehbcnaaDoor
open Go Go.RowKit

/-- A leaf as it lies in memory. -/
structure LfM where
  n : Int
  l : Int
  A : Option Addr
  c : Nat
  xs : List Slt
/-- The leaves ls lie at A, in blocks that F does not name. -/
def Leaves (w : World) (F : Nat → Prop) (A : Option Addr) (ls : List LfM) : Prop :=
  0 < ls.length → ∃ b off, A = some ⟨b, off, none⟩ ∧ b < w.heap.size ∧ ¬ F b ∧ ∀ (j : Nat) (m : LfM), ls[j]? = some m →
    w.cell? ⟨b, off + j * 3, none⟩ = some (.int .i64 m.n) ∧ w.cell? ⟨b, off + j * 3 + 1, none⟩ = some (.int .i64 m.l) ∧ w.cell? ⟨b, off + j * 3 + 2, none⟩ = some (.slice m.A m.xs.length m.c) ∧
    (Lit.int .i64 m.n).wf = true ∧ m.xs.length ≤ 4611686018427387904 ∧ Slots w F m.A m.xs
theorem Leaves.fr {w w' : World} {F : Nat → Prop} {A : Option Addr} {ls : List LfM} (h : Leaves w F A ls) (hf : Fr F w w') : Leaves w' F A ls := fun hn => by
  obtain ⟨b, off, e, hb, hF, hc⟩ := h hn
  refine ⟨b, off, e, Nat.lt_of_lt_of_le hb hf.size, hF, fun j x hx => ?_⟩
  obtain ⟨h1, h2, h3, h4, h5, h6⟩ := hc j x hx
  exact ⟨(hf.cell (p := ⟨b, off + j * 3, none⟩) hb hF).trans h1, (hf.cell (p := ⟨b, off + j * 3 + 1, none⟩) hb hF).trans h2, (hf.cell (p := ⟨b, off + j * 3 + 2, none⟩) hb hF).trans h3, h4, h5, h6.fr hf⟩
theorem _root_.Go.RowKit.Below.toFr'' {B : Nat} {a b : World} (h : Below B a b) : Fr (fun k => B ≤ k) a b := ⟨h.os, h.tape, h.output, h.size, fun k _ hn => h.block k (by omega)⟩
/-- Whether leaves can be written together: the first of them alone. -/
def fitsP (np : Nat) (ls : List LfM) : Bool := ls.all (fun m => decide (0 ≤ m.n) && decide (m.n < (np : Int)) && goodP m.l m.xs) && decide ((ls.map (·.n)).Nodup)

def elemP (np : Nat) (m : LfM) : Bool := decide (0 ≤ m.n) && decide (m.n < (np : Int)) && goodP m.l m.xs
theorem fitsP_bad1 {np : Nat} {ls : List LfM} {k : Nat} {m : LfM} (hm : ls[k]? = some m) (h : elemP np m = false) : fitsP np ls = false := by
  unfold fitsP
  rw [Bool.and_eq_false_iff]
  left
  rw [List.all_eq_false]
  exact ⟨m, List.mem_of_getElem? hm, by unfold elemP at h; rw [h]; simp⟩
theorem split_at {α : Type} {ls : List α} {k : Nat} {m : α} (hm : ls[k]? = some m) : ls = ls.take k ++ m :: ls.drop (k + 1) := by
  have hk := (List.getElem?_eq_some_iff.1 hm).1
  have e := List.drop_eq_getElem_cons hk
  rw [List.getElem?_eq_getElem hk] at hm
  rw [Option.some.inj hm] at e
  rw [← e, List.take_append_drop]
theorem fitsP_bad2 {np : Nat} {ls : List LfM} {k : Nat} {m : LfM} (hm : ls[k]? = some m) (h : m.n ∈ (ls.take k).map (·.n)) : fitsP np ls = false := by
  unfold fitsP
  rw [Bool.and_eq_false_iff]
  right
  rw [decide_eq_false_iff_not, split_at hm, List.map_append, List.map_cons, List.nodup_append]
  rintro ⟨_, _, h3⟩
  exact h3 _ h _ (by simp) rfl
theorem fitsP_step {np : Nat} {ls : List LfM} {k : Nat} {m : LfM} (hm : ls[k]? = some m) (h0 : fitsP np (ls.take k) = true) (h1 : elemP np m = true) (h2 : m.n ∉ (ls.take k).map (·.n)) : fitsP np (ls.take (k + 1)) = true := by
  unfold fitsP at h0 ⊢
  simp only [Bool.and_eq_true, decide_eq_true_eq] at h0
  rw [List.take_add_one, hm]
  simp only [Option.toList_some, List.all_append, List.map_append, Bool.and_eq_true, decide_eq_true_eq]
  refine ⟨⟨h0.1, ?_⟩, ?_⟩
  · unfold elemP at h1
    simp [h1]
  · rw [List.nodup_append]
    refine ⟨h0.2, by simp, fun a ha b hb e => ?_⟩
    simp at hb
    subst hb
    exact h2 (e ▸ ha)

set_option maxRecDepth 100000 in
set_option maxHeartbeats 2000000 in
theorem fits_at {lo : Nat} (w : World) {F : Nat → Prop} {q p : Nat} {pv : Value} {frm tw : Nat} {life : Int} {dead : Bool} {s : PSt} {ps : List PgM} (h : StAt lo w F q p pv frm tw life dead s ps) (hps : ps.length ≤ 65536) (htw : tw ≤ 64)
    (G : Nat → Prop) (A : Option Addr) (c : Nat) (ls : List LfM) (hl : Leaves w G A ls) (hlen : ls.length ≤ 17592186044416) :
    Calls Tryd.prog 40 #[.pointer (some ⟨q, 0, none⟩), .slice A ls.length c] w fun e w' => e = .returned (.bool (fitsP ps.length ls && decide (ls.length ≤ tw))) ∧ Below w.heap.size w w' := by
  have H := Lib.hid h
  have HLS := Lib.hid hl
  have hmm := @run_makeMap Tryd.prog
  obtain ⟨b, off, hA⟩ : ∃ b off, ls.length = 0 ∨ A = some ⟨b, off, none⟩ := by
    rcases Nat.eq_zero_or_pos ls.length with hz | hz
    · exact ⟨0, 0, .inl hz⟩
    · obtain ⟨b, off, e, _⟩ := hl hz
      exact ⟨b, off, .inr e⟩
  clear h hl
  go_enter Tryd.func40, Tryd.ntmps40
  go_wp2_with fail
  clear hmm
  go_loopw [11] (fun i wr => ∃ (k : Nat) (D : DataW Unit), k ≤ ls.length ∧ i = .int .i64 k ∧ wr.ownsMap Tryd.prog 3 belem w.heap.size k D ∧ Hid (SeenIs D ((ls.take k).map (·.n)).reverse ∧ fitsP ps.length (ls.take k) = true) ∧ Below w.heap.size w wr) (fun i _ => ls.length - (intOf i).toNat)
  case atStart =>
    refine ⟨0, .map [], by omega, rfl, World.ownsMap_made w _ _ _, ⟨fun n hn => ?_, ?_⟩, (Below.refl _ _).alloc (Nat.le_refl _) _⟩
    · simp [DataW.atKey]
    · simp [fitsP]
  case round =>
    obtain ⟨k, D, hk, rfl, hown, hP, hB⟩ := hrel
    by_cases hlt : k < ls.length
    · obtain ⟨m, hm⟩ : ∃ m, ls[k]? = some m := ⟨_, List.getElem?_eq_getElem hlt⟩
      rcases hA with hz | rfl
      · omega
      obtain ⟨b', off', e', hbw, hnG, hc⟩ := HLS.out (by omega)
      obtain ⟨rfl, rfl⟩ : b = b' ∧ off = off' := by injection e' with e1; injection e1 with e1 e2; exact ⟨e1, e2⟩
      obtain ⟨hc1, hc2, hc3, hwf, hxl, hsl⟩ := hc k m hm
      have hd1 : wr.cell? ⟨b, off + k * 3, none⟩ = some (.int .i64 m.n) := (hB.cell (p := ⟨b, off + k * 3, none⟩) hbw).trans hc1
      have hd2 : wr.cell? ⟨b, off + k * 3 + 1, none⟩ = some (.int .i64 m.l) := (hB.cell (p := ⟨b, off + k * 3 + 1, none⟩) hbw).trans hc2
      have hd3 : wr.cell? ⟨b, off + k * 3 + 2, none⟩ = some (.slice m.A m.xs.length m.c) := (hB.cell (p := ⟨b, off + k * 3 + 2, none⟩) hbw).trans hc3
      have HS := Lib.hid hsl
      have HOWN := Lib.hid hown
      have HM := Lib.hid hm
      clear hc hc1 hc2 hc3 e' hsl hown hm
      obtain ⟨n, l, Al, cl, xs⟩ := m
      have hxl : xs.length ≤ 4611686018427387904 := hxl
      have hwf' : (Lit.int .i64 n).wf = true := hwf
      have hn0 : -9223372036854775808 ≤ n ∧ n ≤ 9223372036854775807 := by simpa [Lit.wf, IntKind.min, IntKind.max, IntKind.signed, IntKind.bits] using hwf'
      have hB5 := Lib.hid (hB.alloc hB.size (.cells #[.int .i64 n, .int .i64 l, .slice Al xs.length cl] 27))
      have H5 := Lib.hid (H.out.below hB5.out)
      have HOWN5 := Lib.hid (HOWN.out.alloc (.cells #[.int .i64 n, .int .i64 l, .slice Al xs.length cl] 27))
      have HBX := Lib.hid (Blk.new wr 27 #[.int .i64 n, .int .i64 l, .slice Al xs.length cl])
      obtain ⟨Av, cv, hpv⟩ := own_slice H.out.pg
      have hq3 := H5.out.st.cell 3
      simp only [List.getElem?_toArray] at hq3
      rw [hpv] at hq3
      clear hpv
      have HEND : Hid (fitsP ps.length ls = false → Ending.returned (Value.bool false) = Ending.returned (Value.bool (fitsP ps.length ls && decide (ls.length ≤ tw)))) := fun h => by rw [h]; rfl
      by_cases h1 : n < 0
      · have HBAD : Hid (fitsP ps.length ls = false) := fitsP_bad1 HM.out (by unfold elemP; rw [decide_eq_false (p := (0 : Int) ≤ n) (by omega)]; rfl)
        go_upto_region 5 with fail
        go_quiet (fail)
        go_wp2_with fail
        go_ret
        exact ⟨HEND.out HBAD.out, ((Fr.refl Nope _).drewN _).toBelow (Nat.le_refl _) (fun _ h => h.elim) |> fun hb => hB5.out.trans (hb.mono hB5.out.size)⟩
      · by_cases h2 : (ps.length : Int) ≤ n
        · have HBAD : Hid (fitsP ps.length ls = false) := fitsP_bad1 HM.out (by unfold elemP; rw [decide_eq_false (p := n < (ps.length : Int)) (by omega)]; simp)
          go_upto_region 5 with fail
          go_quiet (fail)
          go_wp2_with fail
          go_ret
          exact ⟨HEND.out HBAD.out, ((Fr.refl Nope _).drewN _).toBelow (Nat.le_refl _) (fun _ h => h.elim) |> fun hb => hB5.out.trans (hb.mono hB5.out.size)⟩
        · have hlook : ∀ j : Nat, (Instr.lookup 143 (.map (some w.heap.size)) (.int .i64 n) false).run Tryd.prog ((wr.alloc (.cells #[.int .i64 n, .int .i64 l, .slice Al xs.length cl] 27)).drewN j) = .ok (.bool (decide (n ∈ ((ls.take k).map (·.n)).reverse))) ((wr.alloc (.cells #[.int .i64 n, .int .i64 l, .slice Al xs.length cl] 27)).drewN j) := fun j => seen_look (show ((wr.alloc (.cells #[.int .i64 n, .int .i64 l, .slice Al xs.length cl] 27)).drewN j).ownsMap Tryd.prog 3 belem w.heap.size k D from HOWN5.out) hP.out.1 n hwf'
          cases h3 : decide (n ∈ ((ls.take k).map (·.n)).reverse) with
          | true =>
            have HBAD : Hid (fitsP ps.length ls = false) := fitsP_bad2 HM.out (by have := of_decide_eq_true h3; simpa using this)
            rw [h3] at hlook
            clear h3
            go_upto_region 5 with fail
            go_quiet (fail)
            go_wp2_with fail
            go_ret
            exact ⟨HEND.out HBAD.out, ((Fr.refl Nope _).drewN _).toBelow (Nat.le_refl _) (fun _ h => h.elim) |> fun hb => hB5.out.trans (hb.mono hB5.out.size)⟩
          | false =>
            have HNS : Hid (n ∉ (ls.take k).map (·.n)) := fun h => of_decide_eq_false h3 (List.mem_reverse.2 h)
            rw [h3] at hlook
            have hlook0 := hlook 1
            have hlook1 : (Instr.lookup 143 (.map (some w.heap.size)) (.int .i64 n) false).run Tryd.prog (wr.alloc (.cells #[.int .i64 n, .int .i64 l, .slice Al xs.length cl] 27)) = .ok (.bool false) (wr.alloc (.cells #[.int .i64 n, .int .i64 l, .slice Al xs.length cl] 27)) := by
              have := seen_look HOWN5.out hP.out.1 n hwf'
              rw [h3] at this
              exact this
            clear h3 hlook
            have HSL5 := Lib.hid (HS.out.fr ((Fr.mono' (F' := G) (hB5.out.toFr'' ) (fun k hk h => by omega))))
            have hlookW : ∀ W : World, W.heap = (wr.alloc (.cells #[.int .i64 n, .int .i64 l, .slice Al xs.length cl] 27)).heap → (Instr.lookup 143 (.map (some w.heap.size)) (.int .i64 n) false).run Tryd.prog W = .ok (.bool false) W := by
              intro W hW
              have := seen_look (show W.ownsMap Tryd.prog 3 belem w.heap.size k D by obtain ⟨es, cl, hb, r⟩ := HOWN5.out; exact ⟨es, cl, by rw [hW]; exact hb, r⟩) hP.out.1 n hwf'
              rw [this, decide_eq_false (fun h => HNS.out (List.mem_reverse.1 h))]
            go_upto_region 5 with fail
            have HPV : Hid (∃ Av cv, pv = .slice Av ps.length cv) := own_slice H.out.pg
            clear hq3
            clear hlook0 hlook1
            revert hB5 H5 HOWN5 HBX HSL5 hlookW
            generalize wr.alloc (.cells #[.int .i64 n, .int .i64 l, .slice Al xs.length cl] 27) = W5
            intro hB5 H5 HOWN5 HBX HSL5 hlookW
            have hy0 := HBX.out.cell 0
            have hy1 := HBX.out.cell 1
            have hy2 := HBX.out.cell 2
            have hq3 := H5.out.st.cell 3
            obtain ⟨Av', cv', hpv⟩ := HPV.out
            simp only [List.getElem?_toArray] at hy0 hy1 hy2 hq3
            rw [hpv] at hq3
            clear hpv HPV
            have hlk := hlookW W5.drew rfl
            clear hlookW
            go_still_tail 22, (by kernel_rfl)
            change wpList _ _ _ _ _ W5.drew
            have HSL6 : Hid (Slots W5.drew G Al xs) := HSL5.out
            have HB6 := Lib.hid hB5.out.drew
            have HO6 := Lib.hid HOWN5.out.drew
            have HX6 := Lib.hid HBX.out.drew
            clear hlk hy0 hy1 hy2 hq3 HSL5 hB5 HOWN5 HBX H5
            revert HSL6 HB6 HO6 HX6
            generalize W5.drew = W6
            intro HSL6 HB6 HO6 HX6
            go_wp2_with fail
            refine (good_any _ G l Al cl xs HSL6.out hxl).mono ?_
            rintro e w7 ⟨rfl, b7⟩
            have HB7 := Lib.hid (HB6.out.trans (b7.mono HB6.out.size))
            have HX7 := Lib.hid (HX6.out.below b7 HX6.out.lt)
            have HO7 := Lib.hid (map_fr HO6.out ((Fr.refl Nope _).below b7) (fun h => h))
            have hwg := HX6.out.lt
            clear b7
            cases hgd : goodP l xs with
            | false =>
              have HBAD : Hid (fitsP ps.length ls = false) := fitsP_bad1 HM.out (by unfold elemP; rw [hgd]; simp)
              clear hgd
              go_wp2_with fail
              go_ret
              exact ⟨HEND.out HBAD.out, HB7.out⟩
            | true =>
              have HSTEP : Hid (fitsP ps.length (ls.take (k + 1)) = true) := fitsP_step HM.out hP.out.2 (by unfold elemP; rw [hgd, decide_eq_true (p := (0 : Int) ≤ n) (by omega), decide_eq_true (p := n < (ps.length : Int)) (by omega)]; rfl) HNS.out
              obtain ⟨w8, D8, hrun, ho8, hs8, hg8⟩ := seen_store HO7.out hP.out.1 (by omega) n hwf'
              have HO8 := Lib.hid ho8
              have HS8 := Lib.hid hs8
              have HG8 := Lib.hid hg8
              have hz0 := HX7.out.cell 0
              simp only [List.getElem?_toArray] at hz0
              clear hgd ho8 hs8 hg8
              go_wp2_with fail
              go_roundw
              case rel =>
                refine ⟨k + 1, D8, by omega, by go_num, HO8.out, ⟨?_, HSTEP.out⟩, ?_⟩
                · rw [List.take_add_one, HM.out]
                  simpa using HS8.out
                · exact HB7.out.trans (((Fr.refl (fun j => w.heap.size ≤ j) w7).grown HG8.out (fun j hj => .inl (Nat.le_of_eq (Option.some.inj hj)))).toBelow HB7.out.size (fun _ h => h))
              case measure => simp [intOf]; omega
    · obtain rfl : k = ls.length := by omega
      have hst := (H.out.below hB).st.cell 2
      simp only [List.getElem?_toArray] at hst
      have hall := hP.out.2
      rw [List.take_length] at hall
      have HALL := Lib.hid hall
      clear hall
      go_wp2_with fail
      go_ret
      refine ⟨?_, hB⟩
      rw [HALL.out, Bool.true_and]
      rfl

end Go.Proofs.YtbikplckehbcnaaDoor
