/- slab.Decode. -/
import Derived.Test.YtbikplckehbcnaaDoorGet
set_option linter.unusedVariables false
set_option linter.unusedSimpArgs false
namespace Go.Proofs.YtbikplckehbcnaaDoor
open Go Go.RowKit

/-- What Decode answers, in words: the page of which these are the bytes, or that there is none. -/
def DecIs (w w' : World) (s : ByteArray) (v : Value) : Prop :=
  (∃ l xs A c, GoodP l xs ∧ encS l xs = s ∧ v = .tuple #[.agg #[.int .i64 l, .slice A xs.length c], .int .i64 0] ∧ Slots w' (fun k => k < w.heap.size) A xs) ∨
  ((∀ l xs, GoodP l xs → encS l xs ≠ s) ∧ v = .tuple #[.agg #[.int .i64 0, .slice none 0 0], .int .i64 4])

theorem numsT_extract (t : ByteArray) (a b : Nat) : numsT (t.extract a b) = ((numsT t).drop a).take (b - a) := by
  unfold numsT
  rw [ByteArray.data_extract, Array.toList_extract, List.map_take, List.map_drop]
theorem size_extract' (t : ByteArray) (a b : Nat) (h : a ≤ b) (hb : b ≤ t.size) : (t.extract a b).size = b - a := by
  rw [ByteArray.size_extract]
  omega

/-- If these are a good page's bytes, what has been read so far is its beginning. -/
theorem dec_prefix {l : Int} {xs ys : List Slt} {s rest : ByteArray} (h : GoodP l xs) (he : encS l xs = s) (hy : ∀ y ∈ ys, ShapeS y) {cnt : Nat} (hc : (numsT s)[8]? = some (cnt : Int)) (hl : ys.length ≤ cnt) (hd : (numsT s).drop 9 = ys.flatMap slotB ++ numsT rest) :
    xs.length = cnt ∧ ys = xs.take ys.length ∧ ∃ z, numsT rest = (xs.drop ys.length).flatMap slotB ++ z := by
  have e := encS_nums h
  rw [he] at e
  have h8 : (putB l 8).length = 8 := putB_length l 8
  have hcx : xs.length = cnt := by
    rw [e, List.getElem?_append_right (by omega), h8] at hc
    simp at hc
    omega
  have hd9 : (numsT s).drop 9 = xs.flatMap slotB ++ List.replicate (240 - (encL l xs).length) 0 := by
    rw [e, List.drop_append, List.drop_of_length_le (by omega), h8]
    rfl
  rw [hd9] at hd
  obtain ⟨h1, h2⟩ := parse_unique ys xs (numsT rest) _ hy (fun x hx => shape_of_good (by have := List.any_eq_false.1 h.o x hx; simpa using this)) (by omega) hd.symm
  exact ⟨hcx, h1, _, h2⟩
theorem slotB_cons (x : Slt) : ∃ b r, slotB x = b :: r := by unfold slotB; split <;> exact ⟨_, _, rfl⟩
theorem dec_fail0 {l : Int} {xs ys : List Slt} {s rest : ByteArray} (h : GoodP l xs) (he : encS l xs = s) (hy : ∀ y ∈ ys, ShapeS y) {cnt : Nat} (hc : (numsT s)[8]? = some (cnt : Int)) (hl : ys.length < cnt) (hd : (numsT s).drop 9 = ys.flatMap slotB ++ numsT rest) :
    ∃ x z, xs.drop ys.length = x :: xs.drop (ys.length + 1) ∧ x ∈ xs ∧ numsT rest = slotB x ++ z := by
  obtain ⟨h1, h2, z, h3⟩ := dec_prefix h he hy hc (by omega) hd
  have hlt : ys.length < xs.length := by omega
  have e := List.drop_eq_getElem_cons hlt
  rw [e, List.flatMap_cons, List.append_assoc] at h3
  exact ⟨_, _, e, List.getElem_mem hlt, h3⟩
theorem numsT_cons {t : ByteArray} (h : 0 < t.size) : numsT t = (((t[0]'h).toNat : Nat) : Int) :: numsT (t.extract 1 t.size) := by
  rw [numsT_extract]
  have hl : 0 < (numsT t).length := by rw [numsT_length]; exact h
  have e := List.drop_eq_getElem_cons hl
  rw [List.drop_zero] at e
  rw [List.take_of_length_le (by rw [List.length_drop, numsT_length]; omega)]
  rw [e]
  congr 1
  simp [numsT]
  rfl

theorem bel_grown {w wr w2 : World} {e : TypeId} {sz n : Nat} {v : Value} {xs : List Value} (hB : Below w.heap.size w wr) (hown : wr.ownsRow w.heap.size e sz v n xs) (o : Obj) (hg : (wr.alloc o).grownBy w2 v.ownBlock) : Below w.heap.size w w2 :=
  (((Fr.refl (fun k => w.heap.size ≤ k) wr).alloc o).grown hg (fun k hk => .inl (hown.lt k hk).1)).toBelow hB.size (fun k hk => hk) |> fun h => hB.trans h
theorem slCells_snoc (ys : List Slt) (x : Slt) : slCells (ys ++ [x]) = slCells ys ++ [.bool x.1, .string x.2] := by simp [slCells]

set_option maxRecDepth 100000 in
set_option maxHeartbeats 4000000 in
theorem dec_any (w : World) (s : ByteArray) (hs : s.size = 240) :
    Calls Tryd.prog 100 #[.string s] w fun e w' => (∃ v, e = .returned v ∧ DecIs w w' s v) ∧ Below w.heap.size w w' := by
  obtain ⟨s8, hs8⟩ : ∃ s8, s8 = s.extract 0 8 := ⟨_, rfl⟩
  obtain ⟨sr, hsr⟩ : ∃ sr, sr = s.extract 9 240 := ⟨_, rfl⟩
  have hz8 : s8.size = 8 := by rw [hs8, size_extract' _ _ _ (by omega) (by omega)]
  have hzr : sr.size = 231 := by rw [hsr, size_extract' _ _ _ (by omega) (by omega)]
  have HGET : Hid (∀ W : World, Calls Tryd.prog 133 #[.string (s.extract 0 8)] W fun e w' => e = .returned (.int .u64 (getN (numsT s8))) ∧ Below W.heap.size W w') := fun W => by rw [← hs8]; exact get_any W s8 hz8
  have hsr' : s.extract 9 240 = sr := hsr.symm
  have hLn := getN_bound (numsT s8) (numsT_range _)
  rw [numsT_length, hz8] at hLn
  have HLN : Hid (getN (numsT s8) = getN ((numsT s).take 8)) := by unfold Hid; rw [hs8, numsT_extract]; rfl
  have HSR : Hid ((numsT s).drop 9 = numsT sr) := by
    unfold Hid
    rw [hsr, numsT_extract, List.take_of_length_le (by rw [List.length_drop, numsT_length]; omega)]
  have hcn : Hid ((numsT s)[8]? = some (((s[8]'(by omega)).toNat : Nat) : Int)) := by
    unfold Hid
    have hl : 8 < (numsT s).length := by rw [numsT_length]; omega
    rw [List.getElem?_eq_getElem hl]
    simp [numsT]
    rfl
  have hc8 : ((s[8]'(by omega)).toNat : Int) < 256 := by have := (s[8]'(by omega)).toNat_lt; omega
  clear hs8 hsr
  revert HGET HLN hLn
  generalize getN (numsT s8) = ln
  intro HGET HLN hLn
  obtain ⟨i0, hi, hz⟩ := Option.map_eq_some_iff.1 slot_info
  simp only [Prod.mk.injEq] at hz
  have HZ := Lib.hid hz
  have HI := Lib.hid hi
  clear hz hi
  have HBel0 : Hid (Below w.heap.size w (w.alloc (.cells #[.int .i64 0, .slice none 0 0] 25))) := (Below.refl _ _).alloc (Nat.le_refl _) _
  have HBX := Lib.hid (Blk.new w 25 #[.int .i64 0, .slice none 0 0])
  go_enter Tryd.func100, Tryd.ntmps100
  go_wp2_with fail
  refine (HGET.out _).mono ?_
  rintro e w1 ⟨rfl, b1⟩
  have HBX1 := Lib.hid (HBX.out.below b1 HBX.out.lt)
  have HBel1 := Lib.hid (HBel0.out.trans (b1.mono HBel0.out.size))
  clear b1
  go_wp2_with fail
  revert hcn hc8
  generalize (s[8]'(by omega)).toNat = cnt
  intro hcn hc8
  have HSS : Hid (s.size = 240) := hs
  clear hsr' hz8 hs
  go_loopw [5, 6, 22] (fun v r i wr => ∃ (k : Nat) (ys : List Slt) (rest : ByteArray), i = .int .u8 k ∧ k ≤ cnt ∧ r = .string rest ∧ rest.size ≤ 231 ∧ wr.ownsRow w.heap.size 78 2 v ys.length (slCells ys) ∧
      Hid (ys.length = k ∧ (∀ y ∈ ys, ShapeS y) ∧ (∀ y ∈ ys, y.2.size ≤ 254) ∧ (numsT s).drop 9 = ys.flatMap slotB ++ numsT rest) ∧ Blk wr w.heap.size 25 #[.int .i64 0, .slice none 0 0] ∧ Below w.heap.size w wr) (fun _ _ i _ => 256 - (intOf i).toNat)
  case atStart => exact ⟨0, [], sr, rfl, by omega, rfl, by omega, World.ownsRow_nil _ _ _ _, ⟨rfl, by simp, by simp, by simpa using HSR.out⟩, HBX1.out, HBel1.out⟩
  case round =>
    obtain ⟨k, ys, rest, rfl, hk, rfl, hrs, hown, hP, hbx, hB⟩ := hrel
    have HOWN := Lib.hid hown
    have HBXr := Lib.hid hbx
    clear hown hbx
    by_cases hlt : k < cnt
    · have HF0 : Hid (∀ l xs, GoodP l xs → encS l xs = s → ∃ x z, xs.drop ys.length = x :: xs.drop (ys.length + 1) ∧ x ∈ xs ∧ numsT rest = slotB x ++ z) := fun l xs hg he => dec_fail0 hg he hP.out.2.1 hcn.out (by rw [hP.out.1]; exact hlt) hP.out.2.2.2
      have hf0 := HBXr.out.frozen 0
      have hf1 := HBXr.out.frozen 1
      have hx0 := HBXr.out.cell 0
      have hx1 := HBXr.out.cell 1
      simp only [List.getElem?_toArray] at hx0 hx1
      by_cases hz : rest.size = 0
      · obtain rfl := size_zero hz
        go_wp2_with fail
        refine bodyPost_ret (pg_results2 rfl _ _ _ _ _ _ _ rfl rfl ((HBXr.out.set_ 0 _).set_ 1 _)) rfl ⟨⟨_, rfl, .inr ⟨fun l xs hg he => ?_, rfl⟩⟩, (hB.setCell (p := ⟨w.heap.size, 0, none⟩) (Nat.le_refl _) _).setCell (p := ⟨w.heap.size, 1, none⟩) (Nat.le_refl _) _⟩
        obtain ⟨x, z, _, _, h⟩ := HF0.out l xs hg he
        obtain ⟨b, r, e⟩ := slotB_cons x
        rw [e] at h
        exact absurd h (by simp [numsT])
      · have hpos : 0 < rest.size := by omega
        have hne : rest.toList.isEmpty = false := by rw [empty_size]; simpa using hz
        obtain ⟨r1, hr1⟩ : ∃ r1, rest.extract 1 rest.size = r1 := ⟨_, rfl⟩
        have hrz : r1.size + 1 = rest.size := by rw [← hr1, size_extract' _ _ _ (by omega) (Nat.le_refl _)]; omega
        have HNC : Hid (numsT rest = (((rest[0]'hpos).toNat : Nat) : Int) :: numsT r1) := by unfold Hid; rw [← hr1]; exact numsT_cons hpos
        have hb256 : (((rest[0]'hpos).toNat : Nat) : Int) < 256 := by have := (rest[0]'hpos).toNat_lt; omega
        have HR1 := Lib.hid hr1
        clear hz
        by_cases h255 : (rest[0]'hpos).toNat = 255
        · have h255' : ((((rest[0]'hpos).toNat : Nat) : Int) == 255) = true := by rw [beq_iff_eq]; omega
          have H255 := Lib.hid h255
          clear h255
          go_wp2_with (at_builtin; refine wpList_append_own_at _ rfl _ _ 23 rfl w.heap.size 78 i0 (.agg #[.bool false, .string ⟨#[]⟩]) 2 24 Tryd.underlying23 HI.out HZ.out.1 HZ.out.2.1 HZ.out.2.2 rfl (by decide) _ ys.length (slCells ys) rfl (HOWN.out.alloc _) ⟨wr.heap.size, 0, none⟩ 1 1 [.bool false, .string ⟨#[]⟩] rfl rfl (World.news_of_block (cs := #[.bool false, .string ⟨#[]⟩]) (t := 78) (fr := (0, 0)) (heap_alloc_new wr _)) ?c1 ?c2 ?c3 ?c4 ?_; (case c1 => intro u hu; simp at hu; rcases hu with rfl | rfl <;> rfl); (case c2 => have := hP.out.1; simp only [maxLen]; omega); (case c3 => have := hP.out.1; omega); (case c4 => have := hB.size; simp; omega); intro v2 w2 hown2 hg2 _ hat2; have HO2 := Lib.hid hown2; have HG2 := Lib.hid hg2; have HA2 := Lib.hid hat2; clear hown2 hg2 hat2)
          go_roundw
          case rel =>
            refine ⟨k + 1, ys ++ [(false, ⟨#[]⟩)], r1, by go_num, by omega, rfl, by omega, ?_, ⟨?_, ?_, ?_, ?_⟩, ?_, ?_⟩
            · rw [slCells_snoc, List.length_append]; exact HO2.out
            · rw [List.length_append, hP.out.1]; rfl
            · intro y hy
              rcases List.mem_append.1 hy with hy | hy
              · exact hP.out.2.1 y hy
              · rw [List.mem_singleton.1 hy]; rfl
            · intro y hy
              rcases List.mem_append.1 hy with hy | hy
              · exact hP.out.2.2.1 y hy
              · rw [List.mem_singleton.1 hy]; exact Nat.zero_le _
            · rw [hP.out.2.2.2, HNC.out, H255.out, List.flatMap_append, List.append_assoc]; rfl
            · exact (HBXr.out.alloc _).grown HG2.out (fun e => own_blk_ne HOWN.out HBXr.out (by decide) e.symm)
            · exact bel_grown hB HOWN.out _ HG2.out
          case measure => simp [intOf]; omega
        · have h255' : ((((rest[0]'hpos).toNat : Nat) : Int) == 255) = false := by rw [beq_eq_false_iff_ne]; omega
          have H255 := Lib.hid h255
          clear h255
          by_cases hgt : r1.size < (rest[0]'hpos).toNat
          · have HGT := Lib.hid hgt
            go_wp2_with fail
            refine bodyPost_ret (pg_results2 rfl _ _ _ _ _ _ _ rfl rfl ((HBXr.out.set_ 0 _).set_ 1 _)) rfl ⟨⟨_, rfl, .inr ⟨fun l xs hg he => ?_, rfl⟩⟩, (hB.setCell (p := ⟨w.heap.size, 0, none⟩) (Nat.le_refl _) _).setCell (p := ⟨w.heap.size, 1, none⟩) (Nat.le_refl _) _⟩
            obtain ⟨x, z, _, _, h⟩ := HF0.out l xs hg he
            rw [HNC.out] at h
            unfold slotB at h
            split at h
            · simp only [List.cons_append, List.cons.injEq] at h
              have h2 := congrArg List.length h.2
              rw [numsT_length, List.length_append, numsT_length] at h2
              have := HGT.out
              omega
            · simp only [List.cons_append, List.cons.injEq] at h
              have := H255.out
              omega
          · obtain ⟨n, hn⟩ : ∃ n, (rest[0]'hpos).toNat = n := ⟨_, rfl⟩
            obtain ⟨t1, ht1⟩ : ∃ t1, r1.extract 0 n = t1 := ⟨_, rfl⟩
            obtain ⟨r2, hr2⟩ : ∃ r2, r1.extract n r1.size = r2 := ⟨_, rfl⟩
            rw [hn] at hgt h255' hb256 HNC H255
            have hn1 : n ≤ r1.size := by omega
            have hz1 : t1.size = n := by rw [← ht1, size_extract' _ _ _ (by omega) hn1]; omega
            have hz2 : r2.size + n = r1.size := by rw [← hr2, size_extract' _ _ _ hn1 (Nat.le_refl _)]; omega
            have HSP : Hid (numsT r1 = numsT t1 ++ numsT r2) := by
              unfold Hid
              rw [← ht1, ← hr2, numsT_extract, numsT_extract, Nat.sub_zero, List.drop_zero, List.take_of_length_le (l := (numsT r1).drop n) (by rw [List.length_drop, numsT_length]; omega), List.take_append_drop]
            have hn254 : n ≤ 254 := by have := H255.out; omega
            have HZ1 := Lib.hid hz1
            clear hgt hz1
            go_wp2_with (at_builtin; refine wpList_append_own_at _ rfl _ _ 23 rfl w.heap.size 78 i0 (.agg #[.bool false, .string ⟨#[]⟩]) 2 24 Tryd.underlying23 HI.out HZ.out.1 HZ.out.2.1 HZ.out.2.2 rfl (by decide) _ ys.length (slCells ys) rfl (HOWN.out.alloc _) ⟨wr.heap.size, 0, none⟩ 1 1 [.bool true, .string t1] rfl rfl (World.news_of_block (cs := #[.bool true, .string t1]) (t := 78) (fr := (0, 0)) (heap_alloc_new wr _)) ?d1 ?d2 ?d3 ?d4 ?_; (case d1 => intro u hu; simp at hu; rcases hu with rfl | rfl <;> rfl); (case d2 => have := hP.out.1; simp only [maxLen]; omega); (case d3 => have := hP.out.1; omega); (case d4 => have := hB.size; simp; omega); intro v2 w2 hown2 hg2 _ hat2; have HO2 := Lib.hid hown2; have HG2 := Lib.hid hg2; have HA2 := Lib.hid hat2; clear hown2 hg2 hat2)
            go_roundw
            case rel =>
              refine ⟨k + 1, ys ++ [(true, t1)], r2, by go_num, by omega, rfl, by omega, ?_, ⟨?_, ?_, ?_, ?_⟩, ?_, ?_⟩
              · rw [slCells_snoc, List.length_append]; exact HO2.out
              · rw [List.length_append, hP.out.1]; rfl
              · intro y hy
                rcases List.mem_append.1 hy with hy | hy
                · exact hP.out.2.1 y hy
                · rw [List.mem_singleton.1 hy]; show t1.size ≤ 254; rw [HZ1.out]; exact hn254
              · intro y hy
                rcases List.mem_append.1 hy with hy | hy
                · exact hP.out.2.2.1 y hy
                · rw [List.mem_singleton.1 hy]; show t1.size ≤ 254; rw [HZ1.out]; exact hn254
              · rw [hP.out.2.2.2, HNC.out, HSP.out, List.flatMap_append, List.append_assoc]
                simp [slotB, HZ1.out]
              · exact (HBXr.out.alloc _).grown HG2.out (fun e => own_blk_ne HOWN.out HBXr.out (by decide) e.symm)
              · exact bel_grown hB HOWN.out _ HG2.out
            case measure => simp [intOf]; omega
    · obtain rfl : k = cnt := by omega
      obtain ⟨A, c, rfl, hsl⟩ := Slots.of_row (F := fun k => k ≤ w.heap.size) (lo := w.heap.size + 1) (own_base0 HOWN.out (fun g hg => by
        have h1 := (HOWN.out.lt g hg).1
        have h2 : g ≠ w.heap.size := fun e => own_blk_ne HOWN.out HBXr.out (by decide) (e ▸ hg)
        omega)) (fun k hk => by omega) (fun y hy => by have := hP.out.2.2.1 y hy; simp only [maxLen]; omega)
      have HSL := Lib.hid hsl
      have HPRE : Hid (∀ l xs, GoodP l xs → encS l xs = s → ln = l ∧ ys = xs) := by
        intro l xs hg he
        obtain ⟨h1, h2, _⟩ := dec_prefix hg he hP.out.2.1 hcn.out (Nat.le_of_eq hP.out.1) hP.out.2.2.2
        rw [List.take_of_length_le (by rw [hP.out.1, h1]; exact Nat.le_refl _)] at h2
        refine ⟨?_, h2⟩
        have e := encS_nums hg
        rw [he] at e
        rw [hLn.out, e, List.take_append_of_le_length (by rw [putB_length]; exact Nat.le_refl _), List.take_of_length_le (by rw [putB_length]; exact Nat.le_refl _)]
        exact getN_putB l hg.l0 (by have := hg.l1; omega)
      have hyl : Hid (ys.length ≤ 255) := by have := hP.out.1; unfold Hid; omega
      clear hsl
      have HBXa := Lib.hid (HBXr.out.alloc (.cells #[.int .i64 (wrap64 ln), .slice A ys.length c] 25))
      have HBXp := Lib.hid (Blk.new wr 25 #[.int .i64 (wrap64 ln), .slice A ys.length c])
      have HSLa := Lib.hid (HSL.out.fr ((Fr.refl (fun k => k ≤ w.heap.size) wr).alloc (.cells #[.int .i64 (wrap64 ln), .slice A ys.length c] 25)))
      have HBa := Lib.hid (hB.alloc hB.size (.cells #[.int .i64 (wrap64 ln), .slice A ys.length c] 25))
      have HFRa := Lib.hid ((Fr.refl (fun k => k ≤ w.heap.size) wr).alloc (.cells #[.int .i64 (wrap64 ln), .slice A ys.length c] 25))
      go_wp2_with fail
      cases hg : goodP (wrap64 ln) ys with
      | false =>
        refine (enc_bad _ (fun k => k ≤ w.heap.size) (wrap64 ln) A c ys HSLa.out (by have := hyl.out; omega) hg).mono ?_
        rintro e w2 ⟨rfl, b2⟩
        have HBX2 := Lib.hid (HBXa.out.below b2 HBXa.out.lt)
        have HB2 := Lib.hid (HBa.out.trans (b2.mono HBa.out.size))
        have hf0 := HBX2.out.frozen 0
        have hf1 := HBX2.out.frozen 1
        have hx0 := HBX2.out.cell 0
        have hx1 := HBX2.out.cell 1
        simp only [List.getElem?_toArray] at hx0 hx1
        have HNO : Hid (∀ l xs, GoodP l xs → encS l xs ≠ s) := by
          intro l xs hgd he
          obtain ⟨rfl, rfl⟩ := HPRE.out l xs hgd he
          have hw : wrap64 ln = ln := by have := hgd.l0; have := hgd.l1; unfold wrap64; omega
          rw [hw, goodP_iff.2 hgd] at hg
          cases hg
        have HG := Lib.hid hg
        clear hg b2
        by_cases hbig : 1099511627776 < ln
        all_goals
          go_wp2_with fail
          exact bodyPost_ret (pg_results2 rfl _ _ _ _ _ _ _ rfl rfl ((HBX2.out.set_ 0 _).set_ 1 _)) rfl ⟨⟨_, rfl, .inr ⟨HNO.out, rfl⟩⟩, (HB2.out.setCell (p := ⟨w.heap.size, 0, none⟩) (Nat.le_refl _) _).setCell (p := ⟨w.heap.size, 1, none⟩) (Nat.le_refl _) _⟩
      | true =>
        refine (enc_any _ (fun k => k ≤ w.heap.size) (wrap64 ln) A c ys HSLa.out hg).mono ?_
        rintro e w2 ⟨rfl, b2⟩
        have HBX2 := Lib.hid (HBXa.out.below b2 HBXa.out.lt)
        have HBP2 := Lib.hid (HBXp.out.below b2 HBXp.out.lt)
        have HB2 := Lib.hid (HBa.out.trans (b2.mono HBa.out.size))
        have HFR2 := Lib.hid (HFRa.out.below b2)
        have hf0 := HBX2.out.frozen 0
        have hf1 := HBX2.out.frozen 1
        have hx0 := HBX2.out.cell 0
        have hx1 := HBX2.out.cell 1
        have hp0 := HBP2.out.cell 0
        have hp1 := HBP2.out.cell 1
        simp only [List.getElem?_toArray] at hx0 hx1 hp0 hp1
        have HG := Lib.hid hg
        clear hg b2
        obtain ⟨es, hes⟩ : ∃ es, encS (wrap64 ln) ys = es := ⟨_, rfl⟩
        have HES := Lib.hid hes
        rw [hes]
        clear hes
        by_cases hbig : 1099511627776 < ln
        · have HBIG := Lib.hid hbig
          go_wp2_with fail
          refine bodyPost_ret (pg_results2 rfl _ _ _ _ _ _ _ rfl rfl ((HBX2.out.set_ 0 _).set_ 1 _)) rfl ⟨⟨_, rfl, .inr ⟨fun l xs hgd he => ?_, rfl⟩⟩, (HB2.out.setCell (p := ⟨w.heap.size, 0, none⟩) (Nat.le_refl _) _).setCell (p := ⟨w.heap.size, 1, none⟩) (Nat.le_refl _) _⟩
          obtain ⟨rfl, rfl⟩ := HPRE.out l xs hgd he
          have := hgd.l1
          have := HBIG.out
          omega
        · have HBIG := Lib.hid hbig
          cases heq : (es.toList == s.toList) with
          | true =>
            have HEQ : Hid (es = s) := by
              have := toList_beq es s
              rw [heq] at this
              exact (of_decide_eq_true this.symm : es = s)
            go_wp2_with fail
            refine bodyPost_ret (pg_results2 rfl _ _ _ _ _ _ _ rfl rfl ((HBX2.out.set_ 0 _).set_ 1 _)) rfl ⟨⟨_, rfl, .inl ⟨wrap64 ln, ys, A, c, goodP_iff.1 HG.out, HES.out.trans HEQ.out, rfl, ?_⟩⟩, (HB2.out.setCell (p := ⟨w.heap.size, 0, none⟩) (Nat.le_refl _) _).setCell (p := ⟨w.heap.size, 1, none⟩) (Nat.le_refl _) _⟩
            exact (HSL.out.fr ((HFR2.out.set (.inl (Nat.le_refl _)) 0 _).set (.inl (Nat.le_refl _)) 1 _)).mono (fun k _ hk => Nat.le_of_lt hk)
          | false =>
            have HEQ : Hid (es ≠ s) := by
              have := toList_beq es s
              rw [heq] at this
              exact (of_decide_eq_false this.symm : ¬ es = s)
            go_wp2_with fail
            refine bodyPost_ret (pg_results2 rfl _ _ _ _ _ _ _ rfl rfl ((HBX2.out.set_ 0 _).set_ 1 _)) rfl ⟨⟨_, rfl, .inr ⟨fun l xs hgd he => ?_, rfl⟩⟩, (HB2.out.setCell (p := ⟨w.heap.size, 0, none⟩) (Nat.le_refl _) _).setCell (p := ⟨w.heap.size, 1, none⟩) (Nat.le_refl _) _⟩
            obtain ⟨rfl, rfl⟩ := HPRE.out l xs hgd he
            have hw : wrap64 ln = ln := by have := hgd.l0; have := hgd.l1; unfold wrap64; omega
            have h2 := HES.out
            rw [hw] at h2
            exact HEQ.out (by rw [← h2, he])

end Go.Proofs.YtbikplckehbcnaaDoor
