/- twin.Store: copied. -/
import Derived.Test.YtbikplckehbcnaaDoorOpS
import Derived.IntWalk
set_option linter.unusedVariables false
set_option linter.unusedSimpArgs false
namespace Go.Proofs.YtbikplckehbcnaaDoor
open Go Go.RowKit

/-- The best copy so far, in the block g. -/
def BestAt (g : Nat) (wr : World) (b : Option Pg) (isv : Value) : Prop :=
  (b = none ∧ isv = .bool false ∧ Blk wr g 25 #[.int .i64 0, .slice none 0 0]) ∨
  ∃ l xs A c, b = some (l, xs) ∧ isv = .bool true ∧ Blk wr g 25 #[.int .i64 l, .slice A xs.length c] ∧ Slots wr (fun k => k ≤ g) A xs
theorem BestAt.below {g : Nat} {a b : World} {o : Option Pg} {v : Value} (h : BestAt g a o v) (hb : Below a.heap.size a b) : BestAt g b o v := by
  rcases h with ⟨h1, h2, h3⟩ | ⟨l, xs, A, c, h1, h2, h3, h4⟩
  · exact .inl ⟨h1, h2, h3.below hb h3.lt⟩
  · exact .inr ⟨l, xs, A, c, h1, h2, h3.below hb h3.lt, h4.fr ((Fr.refl _ a).below hb)⟩
theorem BestAt.blk {g : Nat} {a : World} {o : Option Pg} {v : Value} (h : BestAt g a o v) : ∃ l A n c, Blk a g 25 #[.int .i64 l, .slice A n c] ∧ ((o = none ∧ v = .bool false) ∨ (v = .bool true ∧ ∃ xs, o = some (l, xs))) := by
  rcases h with ⟨h1, h2, h3⟩ | ⟨l, xs, A, c, h1, h2, h3, h4⟩
  · exact ⟨_, _, _, _, h3, .inl ⟨h1, h2⟩⟩
  · exact ⟨_, _, _, _, h3, .inr ⟨h2, xs, h1⟩⟩
theorem Slots.set2 {w : World} {g : Nat} {A : Option Addr} {xs : List Slt} (h : Slots w (fun j => j ≤ g) A xs) (u v : Value) : Slots ((w.setCell ⟨g, 0, none⟩ u).setCell ⟨g, 1, none⟩ v) (fun j => j ≤ g) A xs :=
  h.fr (((Fr.refl (fun j => j ≤ g) w).set (g := g) (.inl (Nat.le_refl g)) 0 u).set (g := g) (.inl (Nat.le_refl g)) 1 v)
theorem copRange (s : PSt) (frm n k : Nat) : (List.range (k + 1)).foldl (copStep s frm n) none = copStep s frm n ((List.range k).foldl (copStep s frm n) none) k := by
  rw [List.range_succ, List.foldl_append]; rfl

set_option maxRecDepth 100000 in
set_option maxHeartbeats 4000000 in
theorem copied_at {lo : Nat} (w : World) {F : Nat → Prop} {q p : Nat} {pv : Value} {frm tw : Nat} {life : Int} {dead : Bool} {s : PSt} {ps : List PgM} (h : StAt lo w F q p pv frm tw life dead s ps) (n : Nat) (h1 : frm ≤ 16384) (h2 : tw ≤ 64) (hac : s.acts < 1000000) (hf : Full s) :
    Calls Tryd.prog 74 #[.pointer (some ⟨q, 0, none⟩), .int .i64 (n : Int)] w fun e w' =>
      ((copP s frm tw n = none ∧ e = .returned (.tuple #[.agg #[.int .i64 0, .slice none 0 0], .bool false])) ∨
       ∃ l xs A c, copP s frm tw n = some (l, xs) ∧ e = .returned (.tuple #[.agg #[.int .i64 l, .slice A xs.length c], .bool true]) ∧ Slots w' (fun k => k < w.heap.size) A xs) ∧ Below w.heap.size w w' := by
  have H := Lib.hid h
  have HF := Lib.hid hf
  have HOK := Lib.hid h.pl.ok
  have HB0 := Lib.hid ((Below.refl w.heap.size w).alloc (Nat.le_refl _) (.cells #[.int .i64 0, .slice none 0 0] 25))
  have HX0 := Lib.hid (Blk.new w 25 #[.int .i64 0, .slice none 0 0])
  have hq2 := (h.below HB0.out).st.cell 2
  simp only [List.getElem?_toArray] at hq2
  clear h hf
  go_enter Tryd.func74, Tryd.ntmps74
  go_wp2_with fail
  clear hq2
  go_loopw [5, 15] (fun b i wr => ∃ (k : Nat) (o : Option Pg), i = .int .i64 k ∧ k ≤ tw ∧ Hid (o = (List.range k).foldl (copStep s frm n) none) ∧ Hid (BestAt w.heap.size wr o b) ∧ Hid (Below w.heap.size w wr)) (fun _ i _ => tw - (intOf i).toNat)
  case atStart => exact ⟨0, none, rfl, by omega, rfl, .inl ⟨rfl, rfl, HX0.out⟩, HB0.out⟩
  case round =>
    obtain ⟨k, o, rfl, hk, hO, hBA, hB⟩ := hrel
    by_cases hlt : k < tw
    · have H1 := Lib.hid (H.out.below hB.out)
      have hq0 := H1.out.st.cell 0
      have hq1 := H1.out.st.cell 1
      simp only [List.getElem?_toArray] at hq0 hq1
      obtain ⟨l0, A0, n0, c0, hblk, hcase⟩ := hBA.out.blk
      have HBLK := Lib.hid hblk
      have HCASE := Lib.hid hcase
      clear hblk hcase
      go_upto_region 4 with fail
      have HKB : Hid (∀ W' : World, Below wr.heap.size wr W' → (W'.cell? ⟨q, 0, none⟩ = some (.pointer (some ⟨p, 0, none⟩)) ∧ W'.cell? ⟨q, 1, none⟩ = some (.int .i64 (frm : Int)))) := fun W' hW => ⟨(H1.out.below hW).st.cell 0, (H1.out.below hW).st.cell 1⟩
      obtain ⟨t, ht⟩ : ∃ t, (s.read ((frm + k : Nat) : Int)).1 = t := ⟨_, rfl⟩
      obtain ⟨r, hr⟩ : ∃ r, (s.read ((frm + k : Nat) : Int)).2 = r := ⟨_, rfl⟩
      have HRD : Hid (∀ W' : World, Below wr.heap.size wr W' → Calls Tryd.prog 33 #[.pointer (some ⟨p, 0, none⟩), .int .i64 ((frm : Int) + (k : Int))] W' fun e w' => e = .returned (.tuple #[.string t, .int .i64 r]) ∧ Below W'.heap.size W' w') := fun W' hW => by
        have := read_any W' F p s ((frm + k : Nat) : Int) (H1.out.below hW).pl (by omega)
        rw [ht, hr] at this
        exact this
      have HT := Lib.hid ht
      have HR := Lib.hid hr
      have HFU : Hid (r = 0 → t.size = 256) := fun h0 => by rw [← HT.out]; exact read_full HF.out HOK.out (by rw [HR.out]; exact h0)
      have HST : Hid ((List.range (k + 1)).foldl (copStep s frm n) none = copStep s frm n o k) := by rw [hO.out]; exact copRange s frm n k
      have hsum : IntKind.i64.wrap ((frm : Int) + (k : Int)) = (frm : Int) + (k : Int) := IntWalk.i64_in _ (by omega)
      have HW0 : Hid (Below wr.heap.size wr wr.drew) := (Below.refl _ _).drew
      clear hq0 hq1 ht hr
      go_region_held3 (fun w' => w'.cell? ⟨q, 0, none⟩ = some (.pointer (some ⟨p, 0, none⟩)) ∧ w'.cell? ⟨q, 1, none⟩ = some (.int .i64 (frm : Int)))
        (first | exact HKB.out _ HW0.out | exact HKB.out _ HBS.out)
        (first | (go_at_call 33; refine (HRD.out _ HW0.out).mono ?_; rintro e w6 ⟨rfl, b6⟩; have HBS := Lib.hid (HW0.out.trans (b6.mono HW0.out.size)); clear b6))
      clear hsum
      have HB6 := Lib.hid (hB.out.trans (HBS.out.mono hB.out.size))
      have HBA6 := Lib.hid (hBA.out.below HBS.out)
      have HBL6 := Lib.hid (HBLK.out.below HBS.out HBLK.out.lt)
      by_cases hr0 : r = 0
      · subst hr0
        have HTS := Lib.hid (HFU.out rfl)
        go_wp2_with fail
        refine (page_any _ (n : Int) t HTS.out).mono ?_
        rintro e w7 ⟨⟨v, rfl, hv⟩, b7⟩
        have HB7 := Lib.hid (HB6.out.trans (b7.mono HB6.out.size))
        have HBA7 := Lib.hid (HBA6.out.below b7)
        have HBL7 := Lib.hid (HBL6.out.below b7 HBL6.out.lt)
        have hs67 := b7.size
        have hw6 := HBL6.out.lt
        clear b7
        rcases hv.pg with ⟨l, xs, A, c, hpg, rfl, hsl⟩ | ⟨hpg, rfl⟩
        · have HPG := Lib.hid hpg
          have HSL := Lib.hid hsl
          have HBA8 := Lib.hid (HBA7.out.below ((Below.refl w7.heap.size w7).alloc (Nat.le_refl _) (.cells #[.int .i64 l, .slice A xs.length c] 25)))
          have HBL8 := Lib.hid (HBL7.out.alloc (.cells #[.int .i64 l, .slice A xs.length c] 25))
          have HBN8 := Lib.hid (Blk.new w7 25 #[.int .i64 l, .slice A xs.length c])
          have HB8 := Lib.hid (HB7.out.alloc HB7.out.size (.cells #[.int .i64 l, .slice A xs.length c] 25))
          have hx0 := HBL8.out.cell 0
          have hx1 := HBL8.out.cell 1
          have hf0 := HBL8.out.frozen 0
          have hf1 := HBL8.out.frozen 1
          have hy0 := HBN8.out.cell 0
          have hy1 := HBN8.out.cell 1
          simp only [List.getElem?_toArray] at hx0 hx1 hy0 hy1
          clear hpg hsl hv
          rcases HCASE.out with ⟨ho, rfl⟩ | ⟨rfl, ys, ho⟩
          · have HN : Hid (copStep s frm n o k = some (l, xs)) := by
              unfold Hid copStep
              rw [HR.out, HT.out, HPG.out, ho]; simp
            clear ho
            go_wp2_with fail
            go_roundw
            case rel => exact ⟨k + 1, some (l, xs), by go_num, by omega, by rw [HST.out, HN.out]; rfl, .inr ⟨l, xs, A, c, rfl, rfl, (HBL8.out.set_ 0 _).set_ 1 _, ((HSL.out.mono (F' := fun j => j ≤ w.heap.size) (fun j _ h => by omega)).fr ((Fr.refl _ w7).alloc _)).set2 _ _⟩, (HB8.out.setCell (p := ⟨w.heap.size, 0, none⟩) (Nat.le_refl _) _).setCell (p := ⟨w.heap.size, 1, none⟩) (Nat.le_refl _) _⟩
            case measure => simp [intOf]; omega
          · by_cases hlt2 : l0 < l
            · have HN : Hid (copStep s frm n o k = some (l, xs)) := by
                unfold Hid copStep
                rw [HR.out, HT.out, HPG.out, ho]; simp [hlt2]
              clear ho
              go_wp2_with fail
              go_roundw
              case rel => exact ⟨k + 1, some (l, xs), by go_num, by omega, by rw [HST.out, HN.out]; rfl, .inr ⟨l, xs, A, c, rfl, rfl, (HBL8.out.set_ 0 _).set_ 1 _, ((HSL.out.mono (F' := fun j => j ≤ w.heap.size) (fun j _ h => by omega)).fr ((Fr.refl _ w7).alloc _)).set2 _ _⟩, (HB8.out.setCell (p := ⟨w.heap.size, 0, none⟩) (Nat.le_refl _) _).setCell (p := ⟨w.heap.size, 1, none⟩) (Nat.le_refl _) _⟩
              case measure => simp [intOf]; omega
            · have HN : Hid (copStep s frm n o k = o) := by
                unfold Hid copStep
                rw [HR.out, HT.out, HPG.out, ho]; simp [hlt2]
              clear ho
              go_wp2_with fail
              go_roundw
              case rel => exact ⟨k + 1, o, by go_num, by omega, by rw [HST.out, HN.out]; rfl, HBA8.out, HB8.out⟩
              case measure => simp [intOf]; omega
        · have HN : Hid (copStep s frm n o k = o) := by
            unfold Hid copStep
            rw [HR.out, HT.out, hpg]; simp
          have HBA8 := Lib.hid (HBA7.out.below ((Below.refl w7.heap.size w7).alloc (Nat.le_refl _) (.cells #[.int .i64 0, .slice none 0 0] 25)))
          have HB8 := Lib.hid (HB7.out.alloc HB7.out.size (.cells #[.int .i64 0, .slice none 0 0] 25))
          clear hpg hv
          go_wp2_with fail
          go_roundw
          case rel => exact ⟨k + 1, o, by go_num, by omega, by rw [HST.out, HN.out]; rfl, HBA8.out, HB8.out⟩
          case measure => simp [intOf]; omega
      · have HN : Hid (copStep s frm n o k = o) := by
          unfold Hid copStep
          rw [HR.out, if_pos hr0]
        have hr1 : (r != 0) = true := by rw [bne_iff_ne]; exact hr0
        clear hr0
        go_wp2_with fail
        go_roundw
        case rel => exact ⟨k + 1, o, by go_num, by omega, by rw [HST.out, HN.out]; rfl, HBA6.out, HB6.out⟩
        case measure => simp [intOf]; omega
    · obtain rfl : k = tw := by omega
      have HB9 := Lib.hid hB.out
      rcases hBA.out with ⟨ho, rfl, hb⟩ | ⟨l, xs, A, c, ho, rfl, hb, hs⟩
      · have HBX := Lib.hid hb
        have HO2 := Lib.hid ho
        have hx0 := HBX.out.cell 0
        have hx1 := HBX.out.cell 1
        have hf0 := HBX.out.frozen 0
        have hf1 := HBX.out.frozen 1
        simp only [List.getElem?_toArray] at hx0 hx1
        clear hb ho hBA
        go_wp2_with fail
        exact bodyPost_ret (pg_results2 rfl _ _ _ _ _ _ _ rfl rfl ((HBX.out.set_ 0 _).set_ 1 _)) rfl ⟨.inl ⟨by unfold copP; rw [← hO.out]; exact HO2.out, rfl⟩, (HB9.out.setCell (p := ⟨w.heap.size, 0, none⟩) (Nat.le_refl _) _).setCell (p := ⟨w.heap.size, 1, none⟩) (Nat.le_refl _) _⟩
      · have HBX := Lib.hid hb
        have HO2 := Lib.hid ho
        have HS2 := Lib.hid hs
        have hx0 := HBX.out.cell 0
        have hx1 := HBX.out.cell 1
        have hf0 := HBX.out.frozen 0
        have hf1 := HBX.out.frozen 1
        simp only [List.getElem?_toArray] at hx0 hx1
        clear hb ho hs hBA
        go_wp2_with fail
        exact bodyPost_ret (pg_results2 rfl _ _ _ _ _ _ _ rfl rfl ((HBX.out.set_ 0 _).set_ 1 _)) rfl ⟨.inr ⟨l, xs, A, c, by unfold copP; rw [← hO.out]; exact HO2.out, rfl, (HS2.out.set2 _ _).mono (fun j _ h => Nat.le_of_lt h)⟩, (HB9.out.setCell (p := ⟨w.heap.size, 0, none⟩) (Nat.le_refl _) _).setCell (p := ⟨w.heap.size, 1, none⟩) (Nat.le_refl _) _⟩

end Go.Proofs.YtbikplckehbcnaaDoor
