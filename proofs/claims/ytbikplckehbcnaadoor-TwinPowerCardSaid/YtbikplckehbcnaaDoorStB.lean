/- twin.Store: Read. -/
import Derived.Test.YtbikplckehbcnaaDoorStA
set_option linter.unusedVariables false
set_option linter.unusedSimpArgs false
namespace Go.Proofs.YtbikplckehbcnaaDoor
open Go Go.RowKit

set_option maxRecDepth 100000 in
theorem tready_nil (w : World) : Calls Tryd.prog 39 #[.pointer none] w fun e w' => e = .returned (.int .i64 2) ∧ w = w' := by
  go_enter Tryd.func39, Tryd.ntmps39
  go_wp2_with fail
  go_ret
  exact ⟨rfl, rfl⟩

set_option maxRecDepth 100000 in
theorem tread_nil (w : World) (n : Int) : Calls Tryd.prog 16 #[.pointer none, .int .i64 n] w fun e w' => e = .returned (.tuple #[.agg #[.int .i64 0, .slice none 0 0], .int .i64 2]) ∧ Below w.heap.size w w' := by
  have HBX := Lib.hid (Blk.new w 25 #[.int .i64 0, .slice none 0 0])
  have HBel0 : Hid (Below w.heap.size w (w.alloc (.cells #[.int .i64 0, .slice none 0 0] 25))) := (Below.refl _ _).alloc (Nat.le_refl _) _
  have hf0 := HBX.out.frozen 0
  have hf1 := HBX.out.frozen 1
  have hx0 := HBX.out.cell 0
  have hx1 := HBX.out.cell 1
  simp only [List.getElem?_toArray] at hx0 hx1
  go_enter Tryd.func16, Tryd.ntmps16
  go_wp2_with fail
  refine (tready_nil _).mono ?_
  rintro e w' ⟨rfl, rfl⟩
  go_wp2_with fail
  exact bodyPost_ret (pg_results2 rfl _ _ _ _ _ _ _ rfl rfl HBX.out) rfl ⟨rfl, HBel0.out⟩

/-- What Read answers. -/
def TReadIs (w w' : World) (r n : Int) (pgs : List (Int × List Slt)) (v : Value) : Prop :=
  (r ≠ 0 ∧ v = .tuple #[.agg #[.int .i64 0, .slice none 0 0], .int .i64 r]) ∨
  (r = 0 ∧ (n < 0 ∨ (pgs.length : Int) ≤ n) ∧ v = .tuple #[.agg #[.int .i64 0, .slice none 0 0], .int .i64 1]) ∨
  (r = 0 ∧ ∃ (k : Nat) (l : Int) (xs : List Slt) (A : Option Addr) (c : Nat), n = (k : Int) ∧ pgs[k]? = some (l, xs) ∧ v = .tuple #[.agg #[.int .i64 l, .slice A xs.length c], .int .i64 0] ∧ Slots w' (fun k => k < w.heap.size) A xs)

set_option maxRecDepth 100000 in
set_option maxHeartbeats 2000000 in
theorem tread_at {lo : Nat} (w : World) {F : Nat → Prop} {q p : Nat} {pv : Value} {frm tw : Nat} {life : Int} {dead : Bool} {s : PSt} {ps : List PgM} (h : StAt lo w F q p pv frm tw life dead s ps) (n : Int) (hlen : ps.length ≤ 65536) :
    Calls Tryd.prog 16 #[.pointer (some ⟨q, 0, none⟩), .int .i64 n] w fun e w' => (∃ v, e = .returned v ∧ TReadIs w w' (tRdy dead s life) n (ps.map PgM.pg) v) ∧ Below w.heap.size w w' := by
  have H := Lib.hid h
  have HBX := Lib.hid (Blk.new w 25 #[.int .i64 0, .slice none 0 0])
  have HBel0 : Hid (Below w.heap.size w (w.alloc (.cells #[.int .i64 0, .slice none 0 0] 25))) := (Below.refl _ _).alloc (Nat.le_refl _) _
  clear h
  go_enter Tryd.func16, Tryd.ntmps16
  go_wp2_with fail
  have H0 := Lib.hid (H.out.below HBel0.out)
  refine (tready_any _ H0.out).mono ?_
  rintro e w1 ⟨rfl, b1⟩
  have H1 := Lib.hid (H0.out.below b1)
  have HBX1 := Lib.hid (HBX.out.below b1 HBX.out.lt)
  have HB1 := Lib.hid (HBel0.out.trans (b1.mono HBel0.out.size))
  clear b1
  have hf0 := HBX1.out.frozen 0
  have hf1 := HBX1.out.frozen 1
  have hx0 := HBX1.out.cell 0
  have hx1 := HBX1.out.cell 1
  have hq3 := H1.out.st.cell 3
  simp only [List.getElem?_toArray] at hx0 hx1 hq3
  obtain ⟨r, hr0⟩ : ∃ r, tRdy dead s life = r := ⟨_, rfl⟩
  rw [hr0]
  have HR0 := Lib.hid hr0
  clear hr0
  have HBS : Hid (Blk ((w1.setCell ⟨w.heap.size, 0, none⟩ (.int .i64 0)).setCell ⟨w.heap.size, 1, none⟩ (.slice none 0 0)) w.heap.size 25 #[.int .i64 0, .slice none 0 0] ∧ Below w.heap.size w ((w1.setCell ⟨w.heap.size, 0, none⟩ (.int .i64 0)).setCell ⟨w.heap.size, 1, none⟩ (.slice none 0 0))) :=
    ⟨(HBX1.out.set_ 0 _).set_ 1 _, (HB1.out.setCell (p := ⟨w.heap.size, 0, none⟩) (Nat.le_refl _) _).setCell (p := ⟨w.heap.size, 1, none⟩) (Nat.le_refl _) _⟩
  by_cases hr : r = 0
  · subst hr
    obtain ⟨Av, cv, rfl⟩ := own_slice H1.out.pg
    by_cases h0 : n < 0
    · have hle : n < 0 := h0
      go_wp2_with fail
      exact bodyPost_ret (pg_results2 rfl _ _ _ _ _ _ _ rfl rfl HBS.out.1) rfl ⟨⟨_, rfl, .inr (.inl ⟨HR0.out, .inl hle, rfl⟩)⟩, HBS.out.2⟩
    · obtain ⟨k, rfl⟩ := Int.eq_ofNat_of_zero_le (Int.not_lt.1 h0)
      by_cases hk : k < ps.length
      · obtain ⟨m, hm⟩ : ∃ m, ps[k]? = some m := ⟨_, List.getElem?_eq_getElem hk⟩
        obtain ⟨g, cv', hVn, _⟩ := H1.out.pg.form (by omega)
        obtain ⟨rfl, rfl⟩ : Av = some ⟨g, 0, none⟩ ∧ cv = cv' := by injection hVn with e1 _ e3; exact ⟨e1, e3⟩
        obtain ⟨g0, g1⟩ := pgCells_get ps k
        rw [hm] at g0 g1
        have hc0 := H1.out.pg.cells (g := g) rfl _ _ g0
        have hc1 := H1.out.pg.cells (g := g) rfl _ _ g1
        rw [Addr.add_lit, Nat.zero_add] at hc0 hc1
        have HM := Lib.hid hm
        obtain ⟨hml, hms⟩ := H1.out.sl m (List.mem_of_getElem? hm)
        have HMS := Lib.hid hms
        clear g0 g1 hVn hm hms
        obtain ⟨l, A, c, xs⟩ := m
        have HBXa := Lib.hid (HBX1.out.alloc (.cells #[.int .i64 l, .slice A xs.length c] 25))
        have HBXp := Lib.hid (Blk.new w1 25 #[.int .i64 l, .slice A xs.length c])
        have HBa := Lib.hid (HB1.out.alloc HB1.out.size (.cells #[.int .i64 l, .slice A xs.length c] 25))
        have HMSa := Lib.hid (HMS.out.fr ((Fr.refl _ w1).alloc (.cells #[.int .i64 l, .slice A xs.length c] 25)))
        go_wp2_with fail
        refine (clone_any _ _ A c xs HMSa.out (by have : xs.length ≤ 255 := hml; omega)).mono ?_
        rintro e w2 ⟨⟨A', c', rfl, hsl⟩, b2⟩
        have HSL := Lib.hid hsl
        have HBX2 := Lib.hid (HBXa.out.below b2 HBXa.out.lt)
        have HBP2 := Lib.hid (HBXp.out.below b2 HBXp.out.lt)
        have HB2 := Lib.hid (HBa.out.trans (b2.mono HBa.out.size))
        have hs1 := HB1.out.size
        have hs2 := b2.size
        rw [World.size_alloc] at hs2
        clear b2 hsl hf0 hf1 hx0 hx1 hc0 hc1
        have hf0 := HBX2.out.frozen 0
        have hf1 := HBX2.out.frozen 1
        have hx0 := HBX2.out.cell 0
        have hx1 := HBX2.out.cell 1
        have hq0 := HBP2.out.cell 0
        have hq1 := HBP2.out.cell 1
        have hg1 := HBP2.out.frozen 1
        simp only [List.getElem?_toArray] at hx0 hx1 hq0 hq1
        have hne : w1.heap.size ≠ w.heap.size := by have := HBX1.out.lt; omega
        go_wp2_with fail
        have hle : w.heap.size ≤ w1.heap.size := hs1
        refine bodyPost_ret (pg_results2 rfl _ _ _ _ _ _ _ rfl rfl (((HBX2.out.far (p := ⟨w1.heap.size, 1, none⟩) (fun e => hne e.symm) _).set_ 0 _).set_ 1 _)) rfl ⟨⟨_, rfl, .inr (.inr ⟨HR0.out, k, l, xs, A', c', rfl, by rw [List.getElem?_map, HM.out]; rfl, rfl, ?_⟩)⟩,
          ((HB2.out.setCell (p := ⟨w1.heap.size, 1, none⟩) hle _).setCell (p := ⟨w.heap.size, 0, none⟩) (Nat.le_refl _) _).setCell (p := ⟨w.heap.size, 1, none⟩) (Nat.le_refl _) _⟩
        refine (HSL.out.fr ((((Fr.refl (fun k => k < (w1.alloc (.cells #[.int .i64 l, .slice A xs.length c] 25)).heap.size) w2).set (.inl ?_) 1 _).set (.inl ?_) 0 _).set (.inl ?_) 1 _)).mono (fun k _ hk => ?_)
        · simp
        · simp; omega
        · simp; omega
        · simp; omega
      · have hge : (ps.length : Int) ≤ (k : Int) := by omega
        go_wp2_with fail
        exact bodyPost_ret (pg_results2 rfl _ _ _ _ _ _ _ rfl rfl HBS.out.1) rfl ⟨⟨_, rfl, .inr (.inl ⟨HR0.out, .inr (by rw [List.length_map]; exact hge), rfl⟩)⟩, HBS.out.2⟩
  · have hr' : (r == 0) = false := by rw [beq_eq_false_iff_ne]; exact hr
    have HR := Lib.hid hr
    clear hr
    go_wp2_with fail
    exact bodyPost_ret (pg_results2 rfl _ _ _ _ _ _ _ rfl rfl HBS.out.1) rfl ⟨⟨_, rfl, .inl ⟨by rw [HR0.out]; exact HR.out, by rw [HR0.out]; rfl⟩⟩, HBS.out.2⟩

end Go.Proofs.YtbikplckehbcnaaDoor
