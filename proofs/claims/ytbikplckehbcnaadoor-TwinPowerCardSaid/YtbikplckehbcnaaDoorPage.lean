/- twin.page: the image of a page's sector. -/
import Derived.Test.YtbikplckehbcnaaDoorTrim
set_option linter.unusedVariables false
set_option linter.unusedSimpArgs false
namespace Go.Proofs.YtbikplckehbcnaaDoor
open Go Go.RowKit

/-- What page answers: the page of which this is the sector, or that there is none. -/
def PageIs (w w' : World) (n : Int) (s : ByteArray) (v : Value) : Prop :=
  (∃ l xs A c, GoodP l xs ∧ sectS n l xs = s ∧ v = .tuple #[.agg #[.int .i64 l, .slice A xs.length c], .bool true] ∧ Slots w' (fun k => k < w.heap.size) A xs) ∨
  ((∀ l xs, GoodP l xs → sectS n l xs ≠ s) ∧ v = .tuple #[.agg #[.int .i64 0, .slice none 0 0], .bool false])
theorem sectS_front {n l : Int} {xs : List Slt} (h : GoodP l xs) : (sectS n l xs).extract 0 240 = encS l xs := by
  refine numsT_inj ?_
  rw [numsT_extract]
  unfold sectS
  rw [numsT_append, numsT_append, numsT_append, Nat.sub_zero, List.drop_zero, List.append_assoc, List.append_assoc, List.take_append_of_le_length (by rw [numsT_length, encS_size h]; exact Nat.le_refl _), List.take_of_length_le (by rw [numsT_length, encS_size h]; exact Nat.le_refl _)]

set_option maxRecDepth 100000 in
set_option maxHeartbeats 2000000 in
theorem page_any (w : World) (n : Int) (s : ByteArray) (hs : s.size = 256) :
    Calls Tryd.prog 72 #[.int .i64 n, .string s] w fun e w' => (∃ v, e = .returned v ∧ PageIs w w' n s v) ∧ Below w.heap.size w w' := by
  obtain ⟨sd, hsd⟩ : ∃ sd, s.extract 0 240 = sd := ⟨_, rfl⟩
  have HSD := Lib.hid hsd
  have hz : Hid (sd.size = 240) := by unfold Hid; rw [← hsd, size_extract' _ _ _ (by omega) (by omega)]
  have HBel0 : Hid (Below w.heap.size w (w.alloc (.cells #[.int .i64 0, .slice none 0 0] 25))) := (Below.refl _ _).alloc (Nat.le_refl _) _
  have HBX := Lib.hid (Blk.new w 25 #[.int .i64 0, .slice none 0 0])
  go_enter Tryd.func72, Tryd.ntmps72
  go_wp2_with fail
  refine (dec_any _ sd hz.out).mono ?_
  rintro e w1 ⟨⟨v, rfl, hv⟩, b1⟩
  have HBX1 := Lib.hid (HBX.out.below b1 HBX.out.lt)
  have HB1 := Lib.hid (HBel0.out.trans (b1.mono HBel0.out.size))
  clear b1 hsd
  rcases hv with ⟨l, xs, A, c, hg, he, rfl, hsl⟩ | ⟨hno, rfl⟩
  · have HSL := Lib.hid (show Slots w1 (fun k => k ≤ w.heap.size) A xs from hsl.mono (fun k _ hk => by simp; omega))
    have HGP := Lib.hid hg
    have HE := Lib.hid he
    clear hsl hg he
    have HBXa := Lib.hid (HBX1.out.alloc (.cells #[.int .i64 l, .slice A xs.length c] 25))
    have HBXp := Lib.hid (Blk.new w1 25 #[.int .i64 l, .slice A xs.length c])
    have HBa := Lib.hid (HB1.out.alloc HB1.out.size (.cells #[.int .i64 l, .slice A xs.length c] 25))
    have HFRa := Lib.hid ((Fr.refl (fun k => k ≤ w.heap.size) w1).alloc (.cells #[.int .i64 l, .slice A xs.length c] 25))
    have HSLa := Lib.hid (HSL.out.fr HFRa.out)
    have hgb := goodP_iff.2 HGP.out
    have HGB := Lib.hid hgb
    clear hgb
    go_wp2_with fail
    refine (sect_any _ (fun k => k ≤ w.heap.size) n l A c xs HSLa.out HGB.out).mono ?_
    rintro e w2 ⟨rfl, b2⟩
    have HBX2 := Lib.hid (HBXa.out.below b2 HBXa.out.lt)
    have HBP2 := Lib.hid (HBXp.out.below b2 HBXp.out.lt)
    have HB2 := Lib.hid (HBa.out.trans (b2.mono HBa.out.size))
    have HFR2 := Lib.hid (HFRa.out.below b2)
    have hf0 := HBX2.out.frozen 0
    have hf1 := HBX2.out.frozen 1
    have hx0 := HBX2.out.cell 0
    have hx1 := HBX2.out.cell 1
    have hp0 := HBP2.out.cell 0
    have hp1 := HBP2.out.cell 1
    simp only [List.getElem?_toArray] at hx0 hx1 hp0 hp1
    clear b2
    obtain ⟨ss, hss⟩ : ∃ ss, sectS n l xs = ss := ⟨_, rfl⟩
    have HSS := Lib.hid hss
    rw [hss]
    clear hss
    cases heq : (ss.toList == s.toList) with
    | true =>
      have HEQ : Hid (ss = s) := by
        have := toList_beq ss s
        rw [heq] at this
        exact (of_decide_eq_true this.symm : ss = s)
      go_wp2_with fail
      refine bodyPost_ret (pg_results2 rfl _ _ _ _ _ _ _ rfl rfl ((HBX2.out.set_ 0 _).set_ 1 _)) rfl ⟨⟨_, rfl, .inl ⟨l, xs, A, c, HGP.out, HSS.out.trans HEQ.out, rfl, ?_⟩⟩, (HB2.out.setCell (p := ⟨w.heap.size, 0, none⟩) (Nat.le_refl _) _).setCell (p := ⟨w.heap.size, 1, none⟩) (Nat.le_refl _) _⟩
      exact (HSL.out.fr ((HFR2.out.set (.inl (Nat.le_refl _)) 0 _).set (.inl (Nat.le_refl _)) 1 _)).mono (fun k _ hk => Nat.le_of_lt hk)
    | false =>
      have HEQ : Hid (ss ≠ s) := by
        have := toList_beq ss s
        rw [heq] at this
        exact (of_decide_eq_false this.symm : ¬ ss = s)
      go_wp2_with fail
      refine bodyPost_ret (pg_results2 rfl _ _ _ _ _ _ _ rfl rfl ((HBX2.out.set_ 0 _).set_ 1 _)) rfl ⟨⟨_, rfl, .inr ⟨fun l' xs' hgd he => ?_, rfl⟩⟩, (HB2.out.setCell (p := ⟨w.heap.size, 0, none⟩) (Nat.le_refl _) _).setCell (p := ⟨w.heap.size, 1, none⟩) (Nat.le_refl _) _⟩
      have h1 : encS l' xs' = encS l xs := by rw [← sectS_front (n := n) hgd, he, HSD.out, HE.out]
      refine HEQ.out ?_
      rw [← HSS.out, ← he]
      unfold sectS
      rw [h1]
  · have HNO : Hid (∀ l xs, GoodP l xs → sectS n l xs ≠ s) := by
      intro l xs hg he
      refine hno l xs hg ?_
      rw [← HSD.out, ← he, sectS_front hg]
    clear hno
    have HBXa := Lib.hid (HBX1.out.alloc (.cells #[.int .i64 0, .slice none 0 0] 25))
    have HBa := Lib.hid (HB1.out.alloc HB1.out.size (.cells #[.int .i64 0, .slice none 0 0] 25))
    have hf0 := HBXa.out.frozen 0
    have hf1 := HBXa.out.frozen 1
    have hx0 := HBXa.out.cell 0
    have hx1 := HBXa.out.cell 1
    simp only [List.getElem?_toArray] at hx0 hx1
    go_wp2_with fail
    exact bodyPost_ret (pg_results2 rfl _ _ _ _ _ _ _ rfl rfl ((HBXa.out.set_ 0 _).set_ 1 _)) rfl ⟨⟨_, rfl, .inr ⟨HNO.out, rfl⟩⟩, (HBa.out.setCell (p := ⟨w.heap.size, 0, none⟩) (Nat.le_refl _) _).setCell (p := ⟨w.heap.size, 1, none⟩) (Nat.le_refl _) _⟩

end Go.Proofs.YtbikplckehbcnaaDoor
