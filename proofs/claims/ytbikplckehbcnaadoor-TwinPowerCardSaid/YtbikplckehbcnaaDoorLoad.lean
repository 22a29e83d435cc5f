/- twin.Store: load, of a sector that was never written. -/
import Derived.Test.YtbikplckehbcnaaDoorGrow
set_option linter.unusedVariables false
set_option linter.unusedSimpArgs false
namespace Go.Proofs.YtbikplckehbcnaaDoor
open Go Go.RowKit

theorem zeros_size : PSt.zeros.size = 256 := by
  show (List.replicate 256 (0 : UInt8)).toArray.size = 256
  rw [List.size_toArray, List.length_replicate]
theorem zeros_allZ : allZ PSt.zeros = true := by
  unfold allZ numsT PSt.zeros
  rw [List.all_eq_true]
  intro b hb
  obtain ⟨x, hx, rfl⟩ := List.mem_map.1 hb
  have : x = 0 := List.eq_of_mem_replicate (show x ∈ List.replicate 256 (0 : UInt8) from hx)
  subst this
  rfl
theorem zeros_none (n : Int) : ∀ l xs, GoodP l xs → sectS n l xs ≠ PSt.zeros := by
  intro l xs hg he
  have h1 : (numsT (sectS n l xs))[240]? = some 80 := by
    unfold sectS
    rw [numsT_append, numsT_append, numsT_append, List.append_assoc, List.append_assoc, List.getElem?_append_right (by rw [numsT_length, encS_size hg]; exact Nat.le_refl _), numsT_length, encS_size hg]
    rfl
  rw [he] at h1
  have h2 := List.all_eq_true.1 zeros_allZ 80 (List.mem_of_getElem? h1)
  exact absurd h2 (by decide)

set_option maxRecDepth 100000 in
set_option maxHeartbeats 4000000 in
theorem load0_at {lo : Nat} (w : World) {F0 : Nat → Prop} {q p : Nat} {pv : Value} {frm tw : Nat} {life : Int} {s : PSt} {ps : List PgM} (h : StAt lo w F0 q p pv frm tw life false s ps) (n : Nat) (h1 : frm ≤ 16384) (h2 : tw ≤ 64) (h3 : n ≤ 1048576) (hps : ps.length ≤ 65536) (hac : s.acts < 1000000)
    (hrd : s.read ((frm + tw + n : Nat) : Int) = (PSt.zeros, 0)) :
    Calls Tryd.prog 37 #[.pointer (some ⟨q, 0, none⟩), .int .i64 (n : Int)] w fun e w' => e = .returned (.tuple #[.bool true, .int .i64 0]) ∧ ∃ pv', StAt lo w' F0 q p pv' frm tw life false s (ps ++ [⟨0, none, 0, []⟩]) ∧ Below lo w w' := by
  have H := Lib.hid h
  have hq0 := h.st.cell 0
  simp only [List.getElem?_toArray] at hq0
  clear h
  go_enter Tryd.func37, Tryd.ntmps37
  have HHO : Hid (∀ W' : World, Below w.heap.size w W' → Calls Tryd.prog 44 #[.pointer (some ⟨q, 0, none⟩), .int .i64 (n : Int)] W' fun e w' => e = .returned (.int .i64 ((frm + tw + n : Nat) : Int)) ∧ Below W'.heap.size W' w') := fun W' hW => (home_at W' (H.out.below hW) n h1 h2 h3).mono fun e w' ⟨he, m, hm⟩ => ⟨he, by rw [hm]; exact ((Fr.refl Nope _).drewN _).toBelow (Nat.le_refl _) (fun _ h => h.elim)⟩
  have HRD : Hid (∀ W' : World, Below w.heap.size w W' → Calls Tryd.prog 33 #[.pointer (some ⟨p, 0, none⟩), .int .i64 ((frm : Int) + (tw : Int) + (n : Int))] W' fun e w' => e = .returned (.tuple #[.string PSt.zeros, .int .i64 0]) ∧ Below W'.heap.size W' w') := fun W' hW => by
    have := read_any W' F0 p s ((frm + tw + n : Nat) : Int) (H.out.below hW).pl (by omega)
    rw [hrd] at this
    exact this
  have HKB : Hid (∀ W' : World, Below w.heap.size w W' → W'.cell? ⟨q, 0, none⟩ = some (.pointer (some ⟨p, 0, none⟩))) := fun W' hW => (H.out.below hW).st.cell 0
  have HW0 : Hid (Below w.heap.size w w.drew) := (Below.refl _ _).drew
  obtain ⟨zz, hzz⟩ : ∃ zz, PSt.zeros = zz := ⟨_, rfl⟩
  have HZZ := Lib.hid hzz
  rw [hzz] at HRD
  clear hzz hrd
  go_upto_region 1 with fail
  go_region_held3 (fun w' => w'.cell? ⟨q, 0, none⟩ = some (.pointer (some ⟨p, 0, none⟩)))
    (first | exact HKB.out _ HW0.out | exact HKB.out _ HBP.out | exact HKB.out _ HBS.out)
    (first
      | (go_at_call 44; refine (HHO.out _ HW0.out).mono ?_; rintro e w5 ⟨rfl, b5⟩; have HBP := Lib.hid (HW0.out.trans (b5.mono HW0.out.size)); clear b5)
      | (go_at_call 33; refine (HRD.out _ HBP.out).mono ?_; rintro e w6 ⟨rfl, b6⟩; have HBS := Lib.hid (HBP.out.trans (b6.mono HBP.out.size)); clear b6))
  have hzs : zz.size = 256 := by rw [← HZZ.out]; exact zeros_size
  have HX6 := Lib.hid (Blk.new w6 25 #[.int .i64 0, .slice none 0 0])
  have HB6 := Lib.hid (HBS.out.alloc HBS.out.size (.cells #[.int .i64 0, .slice none 0 0] 25))
  go_wp2_with fail
  refine (page_any _ (n : Int) zz hzs).mono ?_
  rintro e w7 ⟨⟨v, rfl, hv⟩, b7⟩
  rcases hv with ⟨l, xs, A, c, hg, he, _⟩ | ⟨_, rfl⟩
  · exact absurd he (by rw [← HZZ.out]; exact zeros_none _ l xs hg)
  · have HX7 := Lib.hid (HX6.out.below b7 HX6.out.lt)
    have HB7 := Lib.hid (HB6.out.trans (b7.mono HB6.out.size))
    have hx0 := HX7.out.cell 0
    have hx1 := HX7.out.cell 1
    have hf0 := HX7.out.frozen 0
    have hf1 := HX7.out.frozen 1
    simp only [List.getElem?_toArray] at hx0 hx1
    clear b7
    go_wp2_with fail
    refine (trim_any _ zz (by omega)).mono ?_
    rintro e w8 ⟨⟨r, rfl, hr⟩, b8⟩
    have hre : r.toList.isEmpty = true := by rw [hr, ← HZZ.out]; exact zeros_allZ
    have HX8 := Lib.hid (((HX7.out.set_ 0 (.int .i64 0)).set_ 1 (.slice none 0 0)).below b8 (by simpa using HX7.out.lt))
    have HB8 := Lib.hid (((HB7.out.setCell (p := ⟨w6.heap.size, 0, none⟩) (by have := HBS.out.size; simpa using this) (.int .i64 0)).setCell (p := ⟨w6.heap.size, 1, none⟩) (by have := HBS.out.size; simpa using this) (.slice none 0 0)).trans (b8.mono (by have := HB7.out.size; simpa using this)))
    clear b8 hr hx0 hx1 hf0 hf1
    go_upto_region 13 with fail
    have H8 := Lib.hid (H.out.below HB8.out)
    have hq3 := H8.out.st.cell 3
    have hqf := H8.out.st.frozen 3
    have hy0 := HX8.out.cell 0
    have hy1 := HX8.out.cell 1
    have hq3a := (H8.out.st.alloc (.cells #[.int .i64 0, .slice none 0 0] 25)).cell 3
    simp only [List.getElem?_toArray] at hq3 hy0 hy1 hq3a
    have HOW := Lib.hid ((H8.out.pg.alloc (.cells #[.int .i64 0, .slice none 0 0] 25)).drew)
    have HLW := Lib.hid H8.out.lt
    go_region_law (refine step_appP (W := (w8.alloc (.cells #[.int .i64 0, .slice none 0 0] 25)).drew) rfl _ _ rfl lo pv ps ⟨0, none, 0, []⟩ rfl HOW.out ⟨w8.heap.size, 0, none⟩ rfl ((Blk.new w8 25 #[.int .i64 0, .slice none 0 0]).drew.cell 0) ((Blk.new w8 25 #[.int .i64 0, .slice none 0 0]).drew.cell 1) hps (by have := HLW.out; simp; omega) ?_; intro g9 c9 w9 hown9 hg9 hat9; have HO9 := Lib.hid hown9; have HG9 := Lib.hid hg9; have HA9 := Lib.hid hat9; have HQ9 := Lib.hid (((H8.out.st.alloc (.cells #[.int .i64 0, .slice none 0 0] 25)).drew).grown hg9 (fun e => H8.out.nqv e.symm)); have hq93 := HQ9.out.cell 3; have hqf9 := HQ9.out.frozen 3; simp only [List.getElem?_toArray] at hq93; clear hown9 hg9 hat9)
    all_goals
      go_wp2_with fail
      go_ret2
      have hgr := H8.out.grow (((Below.refl _ w8).alloc (Nat.le_refl _) (.cells #[.int .i64 0, .slice none 0 0] 25)).drew) ⟨0, none, 0, []⟩ (by simp) (Slots.nil _ _ _) HO9.out HG9.out (by rcases HA9.out with e | e; exact .inl e; exact .inr e)
      exact ⟨rfl, _, hgr.1, (HB8.out.mono H.out.lt).trans hgr.2⟩

end Go.Proofs.YtbikplckehbcnaaDoor
