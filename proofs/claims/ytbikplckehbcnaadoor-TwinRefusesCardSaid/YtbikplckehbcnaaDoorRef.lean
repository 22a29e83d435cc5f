/- TwinRefuses: what can't be written is refused: the walk. -/
import Derived.Test.YtbikplckehbcnaaDoorRefS
set_option linter.unusedVariables false
set_option linter.unusedSimpArgs false
namespace Go.Proofs.YtbikplckehbcnaaDoor
open Go Go.RowKit

/-- The same leaf twice, of the call's own. -/
theorem leaves_two {w : World} {G : Nat → Prop} {n l : Int} {A : Option Addr} {c : Nat} {xs : List Slt} (hs : Slots w G A xs) (hn : (Lit.int .i64 n).wf = true) (hx : xs.length ≤ 4611686018427387904) (hG : ¬ G w.heap.size) :
    Leaves (w.alloc (.cells #[.int .i64 n, .int .i64 l, .slice A xs.length c, .int .i64 n, .int .i64 l, .slice A xs.length c] 27)) G (some ⟨w.heap.size, 0, none⟩) [⟨n, l, A, c, xs⟩, ⟨n, l, A, c, xs⟩] := by
  intro _
  have hb := Blk.new w 27 #[.int .i64 n, .int .i64 l, .slice A xs.length c, .int .i64 n, .int .i64 l, .slice A xs.length c]
  refine ⟨_, 0, rfl, hb.lt, hG, fun j m hm => ?_⟩
  match j, hm with
  | 0, hm =>
    obtain rfl : (⟨n, l, A, c, xs⟩ : LfM) = m := by simpa using hm
    exact ⟨hb.cell 0, hb.cell 1, hb.cell 2, hn, hx, hs.fr ((Fr.refl G w).alloc _)⟩
  | 1, hm =>
    obtain rfl : (⟨n, l, A, c, xs⟩ : LfM) = m := by simpa using hm
    exact ⟨hb.cell 3, hb.cell 4, hb.cell 5, hn, hx, hs.fr ((Fr.refl G w).alloc _)⟩

set_option maxRecDepth 100000 in
theorem twrite_nil (w : World) : Calls Tryd.prog 13 #[.pointer none, .slice none 0 0] w fun e w' => e = .returned (.int .i64 2) ∧ Below w.heap.size w w' := by
  have HB : Hid (Below w.heap.size w ((w.alloc (.cells #[.pointer none] 36)).alloc (.cells #[.slice none 0 0] 22))) := ((Below.refl _ _).alloc (Nat.le_refl _) _).alloc (by simp) _
  go_enter Tryd.func13, Tryd.ntmps13
  go_wp2_with fail
  refine (tready_nil _).mono ?_
  rintro e w' ⟨rfl, rfl⟩
  go_wp2_with fail
  go_ret
  exact ⟨rfl, HB.out⟩

/-- The two acts that great is asked about. -/
theorem acts_two {w : World} {A : Option Addr} {ls : List LfM} {c : Nat} {n l : Int} {oA : Option Addr} {oc : Nat} {oxs : List Slt} (hl : Leaves w (fun k => w.heap.size ≤ k) A ls) (hlen : ls.length ≤ 4611686018427387904)
    (hs : Slots w (fun k => w.heap.size ≤ k) oA oxs) (hn : (Lit.int .i64 n).wf = true) (hx : oxs.length ≤ 4611686018427387904) :
    Acts ((w.alloc (.cells #[.int .i64 n, .int .i64 l, .slice oA oxs.length oc] 27)).alloc (.cells #[.int .i64 0, .int .i64 0, .int .u8 0, .slice A ls.length c, .slice none 0 0, .int .i64 0, .int .i64 0, .int .u8 0, .slice (some ⟨w.heap.size, 0, none⟩) 1 1, .slice none 0 0] 32))
      (w.heap.size + 1) [⟨A, c, ls, none, 0, 0⟩, ⟨some ⟨w.heap.size, 0, none⟩, 1, [⟨n, l, oA, oc, oxs⟩], none, 0, 0⟩] := by
  have hb := Blk.new (w.alloc (.cells #[.int .i64 n, .int .i64 l, .slice oA oxs.length oc] 27)) 32 #[.int .i64 0, .int .i64 0, .int .u8 0, .slice A ls.length c, .slice none 0 0, .int .i64 0, .int .i64 0, .int .u8 0, .slice (some ⟨w.heap.size, 0, none⟩) 1 1, .slice none 0 0]
  rw [World.size_alloc] at hb
  refine ⟨hb.lt, fun j m hm => ?_⟩
  have hfr := ((Fr.refl (fun k => w.heap.size ≤ k) w).alloc (.cells #[.int .i64 n, .int .i64 l, .slice oA oxs.length oc] 27)).alloc (.cells #[.int .i64 0, .int .i64 0, .int .u8 0, .slice A ls.length c, .slice none 0 0, .int .i64 0, .int .i64 0, .int .u8 0, .slice (some ⟨w.heap.size, 0, none⟩) 1 1, .slice none 0 0] 32)
  match j, hm with
  | 0, hm =>
    obtain rfl : (⟨A, c, ls, none, 0, 0⟩ : AcM) = m := by simpa using hm
    exact ⟨hb.cell 3, hb.cell 4, hlen, by simp, (hl.fr hfr).mono (fun k hk hk2 => by simp at hk2; omega)⟩
  | 1, hm =>
    obtain rfl : (⟨some ⟨w.heap.size, 0, none⟩, 1, [⟨n, l, oA, oc, oxs⟩], none, 0, 0⟩ : AcM) = m := by simpa using hm
    refine ⟨hb.cell 8, hb.cell 9, by simp, by simp, ?_⟩
    have h1 : Leaves _ (fun k => w.heap.size + 1 ≤ k) _ _ := leaves_one (l := l) (c := oc) (hs.mono (F' := fun k => w.heap.size + 1 ≤ k) (fun k hk hk2 => by omega)) hn hx (by omega)
    exact (h1.fr ((Fr.refl _ _).alloc _)).mono (fun k hk hk2 => by simp at hk2; omega)

theorem pgsB_short {k : Nat} {l : Int} {xs : List Slt} (h : pgsB[k]? = some (l, xs)) : xs.length ≤ 100 := by
  have : (l, xs) ∈ pgsB := List.mem_of_getElem? h
  have h2 : ∀ x ∈ pgsB, x.2.length ≤ 100 := by decide
  exact h2 _ this
theorem pgsB_else {k : Nat} {l : Int} {xs : List Slt} (h : pgsB[k]? = some (l, xs)) (hk : ¬ k = 2) : l = 0 ∧ xs = [] := by
  have hlt := (List.getElem?_eq_some_iff.1 h).1
  have hlt : k < 5 := hlt
  have : k = 0 ∨ k = 1 ∨ k = 3 ∨ k = 4 := by omega
  rcases this with rfl | rfl | rfl | rfl <;> (simp [pgsB] at h; exact ⟨h.1.symm, h.2⟩)

set_option maxRecDepth 100000 in
set_option maxHeartbeats 4000000 in
theorem refuses_any (w : World) (A : Option Addr) (c : Nat) (ls : List LfM) (hl : Leaves w (fun k => w.heap.size ≤ k) A ls) (hlen : ls.length ≤ 17592186044416) (n l : Int) (oA : Option Addr) (oc : Nat) (oxs : List Slt)
    (hs : Slots w (fun k => w.heap.size ≤ k) oA oxs) (hn : (Lit.int .i64 n).wf = true) (hx : oxs.length ≤ 4611686018427387904) :
    Calls Tryd.prog 3 #[.slice A ls.length c, .agg #[.int .i64 n, .int .i64 l, .slice oA oxs.length oc]] w fun e w' => e = .returned (.bool true) ∧ Below w.heap.size w w' := by
  have HL := Lib.hid hl
  have HS := Lib.hid hs
  have HN := Lib.hid hn
  have HX := Lib.hid (Blk.new w 27 #[.int .i64 n, .int .i64 l, .slice oA oxs.length oc])
  have HB := Lib.hid ((Below.refl w.heap.size w).alloc (Nat.le_refl _) (.cells #[.int .i64 n, .int .i64 l, .slice oA oxs.length oc] 27))
  clear hl hs hn
  go_enter Tryd.func3, Tryd.ntmps3
  go_wp2_with fail
  refine (awakeT_any _).mono ?_
  rintro e w1 ⟨rfl, b1⟩
  have HB1 := Lib.hid (HB.out.trans (b1.mono HB.out.size))
  have HX1 := Lib.hid (HX.out.below b1 HX.out.lt)
  have HL1 := Lib.hid (((HL.out.fr ((Fr.refl _ _).below HB1.out))).mono (F' := fun k => w1.heap.size ≤ k) (fun k _ h => Nat.le_trans HB1.out.size h))
  have HS1 := Lib.hid (((HS.out.fr ((Fr.refl _ _).below HB1.out))).mono (F' := fun k => w1.heap.size ≤ k) (fun k _ h => Nat.le_trans HB1.out.size h))
  have hx0 := HX1.out.cell 0
  have hx1 := HX1.out.cell 1
  have hx2 := HX1.out.cell 2
  simp only [List.getElem?_toArray] at hx0 hx1 hx2
  clear b1
  go_wp2_with fail
  have HG := Lib.hid (acts_two (l := l) (c := c) (oc := oc) HL1.out (by omega) HS1.out HN.out hx)
  refine (great_any _ (w1.heap.size + 1) 2 _ HG.out (by simp)).mono ?_
  rintro e w2 ⟨hg, b2⟩
  have hb2 := (((Below.refl w1.heap.size w1).alloc (Nat.le_refl _) (.cells #[.int .i64 n, .int .i64 l, .slice oA oxs.length oc] 27)).alloc (by simp) (.cells #[.int .i64 0, .int .i64 0, .int .u8 0, .slice A ls.length c, .slice none 0 0, .int .i64 0, .int .i64 0, .int .u8 0, .slice (some ⟨w1.heap.size, 0, none⟩) 1 1, .slice none 0 0] 32)).trans (b2.mono (by simp; omega))
  have HB2 := Lib.hid (HB1.out.trans (hb2.mono HB1.out.size))
  have HX2 := Lib.hid (HX1.out.below hb2 HX1.out.lt)
  have HL2 := Lib.hid (((HL1.out.fr ((Fr.refl _ _).below hb2))).mono (F' := fun k => w2.heap.size ≤ k) (fun k _ h => Nat.le_trans hb2.size h))
  have HS2 := Lib.hid (((HS1.out.fr ((Fr.refl _ _).below hb2))).mono (F' := fun k => w2.heap.size ≤ k) (fun k _ h => Nat.le_trans hb2.size h))
  clear b2 hb2 HG HL1 HS1 HX1 HB1 HB HX hx0 hx1 hx2
  rcases hg with rfl | rfl
  · go_wp2_with fail
    refine (new_to _ 16 _ tr0).mono ?_
    rintro e w3 ⟨rfl, h3, b3⟩
    go_wp2_with fail
    refine (open0_at w3 h3 0 3 5 (by omega) (by omega) (by decide) rfl (by decide) tr3).mono ?_
    rintro e w4 ⟨q, rfl, h4, b4⟩
    clear h3
    go_wp2_with fail
    refine (image_any _ 1 ⟨#[97]⟩ (by decide)).mono ?_
    rintro e w5 ⟨rfl, hs5, b5⟩
    have H4 := Lib.hid h4
    have HB4 := Lib.hid (b3.trans b4)
    have HB5 := Lib.hid (b5.alloc b5.size (.cells #[.int .i64 2, .int .i64 1, .slice (some ⟨w4.heap.size + 1, 0, none⟩) 1 1] 27))
    have HL5 := Lib.hid (leaves_one (n := 2) (l := 1) (c := 1) (hs5.mono (F' := fun k => w2.heap.size ≤ k ∧ k < w4.heap.size) (fun _ _ h => h.2)) (by decide) (by decide) (by have := b5.size; omega))
    clear h4 hs5 b3 b4 b5
    go_wp2_with fail
    refine (twrite_to w4 _ H4.out HB5.out _ 1 _ HL5.out (by simp) (by omega) (by omega) (by simp) (by decide) (by decide) _ _ _ _ (tr1 _ _)).mono ?_
    rintro e w6 ⟨rfl, h6, b6⟩
    have H6 := Lib.hid h6
    have HB6 := Lib.hid (HB4.out.trans ((HB5.out.mono HB4.out.size).trans b6))
    have HB6w := Lib.hid (HB2.out.trans (HB6.out.mono HB2.out.size))
    have HX6 := Lib.hid (HX2.out.below HB6.out HX2.out.lt)
    have HL6 := Lib.hid (HL2.out.fr (HB6.out.toFr''))
    have HS6 := Lib.hid (HS2.out.fr (HB6.out.toFr''))
    have hwlt := HX2.out.lt
    clear h6 b6 HL5 HB5 HB4 H4 HX2 HL2 HS2
    have hcw := calm_twWrite (s := trB) (life := 0) (frm := 0) (tw := 3) (pgs := pgsB) (ls := ls) ⟨rfl, rfl⟩ rfl (by decide) (by decide)
    have HLa := Lib.hid (HL6.out.mono (F' := fun k => w2.heap.size ≤ k ∧ k < w6.heap.size) (fun _ _ h => h.1))
    rcases hcw with ⟨hbad, hev⟩ | ⟨hfit, hlt3, s7, hev, hcalm, hs7l, hs7c, hs7a, hs7b⟩
    · have HEV := Lib.hid hev
      clear hev hbad
      go_wp2_with fail
      refine (twrite_to w6 w6 H6.out (Below.refl _ _) A c ls HLa.out hlen (by omega) (by omega) (by decide) (by decide) (by decide) _ _ _ _ HEV.out).mono ?_
      rintro e w7 ⟨rfl, h7, b7⟩
      have H7 := Lib.hid h7
      have HB7 := Lib.hid (HB6w.out.trans (b7.mono HB2.out.size))
      clear h7 b7 HLa HL6 HS6 HX6 HB6w HB6 H6
      obtain ⟨F8, hF8, _⟩ := H7.out.plate
      have HA := acts_is _ F8 _ trB hF8
      rw [show trB.acts = 4 from rfl] at HA
      have HAH := Lib.hid HA
      clear HA hF8
      go_wp2_with fail
      refine HAH.out.mono ?_
      rintro e w' ⟨rfl, rfl⟩
      go_wp2_with fail
      go_loopw [9] (fun i wr => ∃ k : Nat, i = .int .i64 k ∧ k ≤ 5 ∧ Hid (Store w2.heap.size wr q (w2.heap.size + 1) 0 3 0 false trB pgsB ∧ Below w.heap.size w wr)) (fun i _ => 5 - (intOf i).toNat)
      case atStart => exact ⟨0, rfl, by omega, H7.out, HB7.out⟩
      case round =>
        obtain ⟨k, rfl, hk, hP⟩ := hrel
        by_cases hk5 : k < 5
        · obtain ⟨l8, xs8, hk8⟩ : ∃ l8 xs8, pgsB[k]? = some (l8, xs8) := ⟨_, _, List.getElem?_eq_getElem (by simpa [pgsB] using hk5)⟩
          have HK8 := Lib.hid hk8
          have hxs8 : xs8.length ≤ 100 := pgsB_short hk8
          clear hk8
          go_wp2_with fail
          refine (tread_ok wr hP.out.1 rfl k l8 xs8 HK8.out (by decide)).mono ?_
          rintro e w8 ⟨⟨A8, c8, rfl, hs8⟩, b8⟩
          have H8 := Lib.hid (hP.out.1.below b8)
          have HB8 := Lib.hid (hP.out.2.trans (b8.mono hP.out.2.size))
          have HSL8 := Lib.hid hs8
          clear b8 hs8
          by_cases hk2 : k = 2
          · subst hk2
            obtain ⟨rfl, rfl⟩ : l8 = 1 ∧ xs8 = pgA := by have := HK8.out; simp [pgsB] at this; exact ⟨this.1.symm, this.2.symm⟩
            go_wp2_with fail
            have hbb := ((Below.refl w8.heap.size w8).alloc (Nat.le_refl _) (.cells #[.int .i64 1, .slice A8 pgA.length c8] 25)).alloc (by simp) (.cells #[.int .i64 0, .slice none 0 0] 25)
            have HBB := Lib.hid hbb
            have HX8 := Lib.hid ((Blk.new w8 25 #[.int .i64 1, .slice A8 pgA.length c8]).alloc (.cells #[.int .i64 0, .slice none 0 0] 25))
            have hy8 := Blk.new (w8.alloc (.cells #[.int .i64 1, .slice A8 pgA.length c8] 25)) 25 #[.int .i64 0, .slice none 0 0]
            rw [World.size_alloc] at hy8
            have HY8 := Lib.hid hy8
            clear hbb hy8
            refine (image_any _ 1 ⟨#[97]⟩ (by decide)).mono ?_
            rintro e w9 ⟨rfl, hs9, b9⟩
            have HB9 := Lib.hid (HBB.out.trans (b9.mono HBB.out.size))
            have HS9 : Hid (Slots w9 (fun j => j < w8.heap.size + 2) (some ⟨w8.heap.size + 1 + 1 + 1, 0, none⟩) pgA) := by have := hs9.mono (F' := fun j => j < w8.heap.size + 2) (fun j _ h => by simp; omega); unfold Hid; simpa [pgA] using this
            have HT9 := Lib.hid ((HSL8.out.mono (F' := fun j => w8.heap.size ≤ j) (fun j h1 h2 => by omega)).fr (HB9.out.toFr''))
            have HX9 := Lib.hid (HX8.out.below b9 HX8.out.lt)
            have HY9 := Lib.hid (HY8.out.below b9 HY8.out.lt)
            have hy0 := HY9.out.cell 0
            have hy1 := HY9.out.cell 1
            have hyf0 := HY9.out.frozen 0
            have hyf1 := HY9.out.frozen 1
            have hx0 := HX9.out.cell 0
            have hx1 := HX9.out.cell 1
            simp only [List.getElem?_toArray] at hy0 hy1 hx0 hx1
            clear b9 hs9 HX8 HY8
            go_wp2_with fail
            have HSS : Hid (Slots ((w9.setCell ⟨w8.heap.size + 1, 0, none⟩ (.int .i64 1)).setCell ⟨w8.heap.size + 1, 1, none⟩ (.slice (some ⟨w8.heap.size + 1 + 1 + 1, 0, none⟩) 1 1)) Nope A8 pgA ∧ Slots ((w9.setCell ⟨w8.heap.size + 1, 0, none⟩ (.int .i64 1)).setCell ⟨w8.heap.size + 1, 1, none⟩ (.slice (some ⟨w8.heap.size + 1 + 1 + 1, 0, none⟩) 1 1)) Nope (some ⟨w8.heap.size + 1 + 1 + 1, 0, none⟩) pgA ∧ Below w8.heap.size w8 ((w9.setCell ⟨w8.heap.size + 1, 0, none⟩ (.int .i64 1)).setCell ⟨w8.heap.size + 1, 1, none⟩ (.slice (some ⟨w8.heap.size + 1 + 1 + 1, 0, none⟩) 1 1))) :=
              ⟨(HT9.out.fr (((Fr.refl _ w9).set (g := w8.heap.size + 1) (.inl (Nat.le_succ _)) 0 _).set (g := w8.heap.size + 1) (.inl (Nat.le_succ _)) 1 _)).mono (fun _ _ h => h.elim), (HS9.out.fr (((Fr.refl _ w9).set (g := w8.heap.size + 1) (.inl (by omega)) 0 _).set (g := w8.heap.size + 1) (.inl (by omega)) 1 _)).mono (fun _ _ h => h.elim), (HB9.out.setCell (p := ⟨w8.heap.size + 1, 0, none⟩) (Nat.le_succ _) _).setCell (p := ⟨w8.heap.size + 1, 1, none⟩) (Nat.le_succ _) _⟩
            clear hy0 hy1 hyf0 hyf1 hx0 hx1 HY9 HX9
            revert HSS
            generalize ((w9.setCell ⟨w8.heap.size + 1, 0, none⟩ (.int .i64 1)).setCell ⟨w8.heap.size + 1, 1, none⟩ (.slice (some ⟨w8.heap.size + 1 + 1 + 1, 0, none⟩) 1 1)) = W10
            intro HSS
            refine (same_any W10 Nope 1 1 A8 _ c8 1 pgA pgA HSS.out.1 HSS.out.2.1 (by decide) (by decide)).mono ?_
            rintro e w10 ⟨rfl, b10⟩
            have HB10 := Lib.hid (HSS.out.2.2.trans (b10.mono HSS.out.2.2.size))
            rw [show sameP 1 1 pgA pgA = true by simp [sameP]]
            clear b10
            go_wp2_with fail
            go_roundw
            case rel => exact ⟨3, by go_num, by omega, H8.out.below HB10.out, HB8.out.trans (HB10.out.mono HB8.out.size)⟩
            case measure => simp [intOf]
          · obtain ⟨rfl, rfl⟩ : l8 = 0 ∧ xs8 = [] := pgsB_else HK8.out hk2
            go_wp2_with fail
            have HB9 := Lib.hid (((Below.refl w8.heap.size w8).alloc (Nat.le_refl _) (.cells #[.int .i64 0, .slice A8 0 c8] 25)).alloc (by simp) (.cells #[.int .i64 0, .slice none 0 0] 25))
            refine (same_any _ Nope 0 0 A8 none c8 0 [] [] (Slots.nil _ _ _) (Slots.nil _ _ _) (by decide) (by decide)).mono ?_
            rintro e w10 ⟨rfl, b10⟩
            have HB10 := Lib.hid (HB9.out.trans (b10.mono HB9.out.size))
            rw [show sameP 0 0 [] [] = true by decide]
            clear b10
            go_wp2_with fail
            go_roundw
            case rel => exact ⟨k + 1, by go_num, by omega, H8.out.below HB10.out, HB8.out.trans (HB10.out.mono HB8.out.size)⟩
            case measure => simp [intOf]; omega
        · obtain rfl : k = 5 := by omega
          go_wp2_with fail
          go_ret
          exact ⟨rfl, hP.out.2⟩
    · have HEV := Lib.hid hev
      have HFIT := Lib.hid hfit
      have HC7 := Lib.hid hcalm
      have HRD : Hid (tRdy false s7 0 = 0) := by unfold Hid tRdy; rw [if_neg]; simp [hcalm.up, hs7l, trB]
      have hs7l' : s7.life = 0 := hs7l
      have hs7a' : s7.acts ≤ 100 := by have : trB.acts = 4 := rfl; omega
      have hs7c' : s7.count = 16 := hs7c
      have HS7 := Lib.hid (And.intro hs7l' (And.intro hs7a' hs7c'))
      clear hev hfit hcalm hs7l hs7a hs7b hs7c hs7l' hs7a' hs7c'
      go_wp2_with fail
      refine (twrite_to w6 w6 H6.out (Below.refl _ _) A c ls HLa.out hlen (by omega) (by omega) (by decide) (by decide) (by decide) _ _ _ _ HEV.out).mono ?_
      rintro e w7 ⟨rfl, h7, b7⟩
      have H7 := Lib.hid h7
      have HB7 := Lib.hid (HB6w.out.trans (b7.mono HB2.out.size))
      have HX7 := Lib.hid (HX6.out.below b7 hwlt)
      clear h7 b7 HLa HL6 HS6 HX6 HB6w HB6 H6
      obtain ⟨pgs, hpgs⟩ : ∃ pgs, laidP pgsB ls = pgs := ⟨_, rfl⟩
      rw [hpgs] at H7
      have HPG : Hid (pgs.length = 5 ∧ ∀ (j : Nat) (m : LfM), ls[j]? = some m → pgs[m.n.toNat]? = some (m.l, m.xs) ∧ 0 ≤ m.n) := by
        refine ⟨by rw [← hpgs, laidP_length]; rfl, fun j m hm => ⟨by rw [← hpgs]; exact laidP_get HFIT.out hm, ((fitsP_mem HFIT.out).1 m (List.mem_of_getElem? hm)).1⟩⟩
      clear hpgs
      obtain ⟨bA, offA, hA⟩ : ∃ b off, ls.length = 0 ∨ A = some ⟨b, off, none⟩ := by
        rcases Nat.eq_zero_or_pos ls.length with hz | hz
        · exact ⟨0, 0, .inl hz⟩
        · obtain ⟨b, off, e, _⟩ := HL.out hz
          exact ⟨b, off, .inr e⟩
      go_wp2_with fail
      go_loopw [13] (fun i wr => ∃ k : Nat, i = .int .i64 k ∧ k ≤ ls.length ∧ Hid (Store w2.heap.size wr q (w2.heap.size + 1) 0 3 0 false s7 pgs ∧ Below w.heap.size w wr ∧ Blk wr w.heap.size 27 #[.int .i64 n, .int .i64 l, .slice oA oxs.length oc])) (fun i _ => ls.length - (intOf i).toNat)
      case atStart => exact ⟨0, rfl, by omega, H7.out, HB7.out, HX7.out⟩
      case round =>
        obtain ⟨k, rfl, hk, hP⟩ := hrel
        by_cases hlt : k < ls.length
        · obtain ⟨m, hm⟩ : ∃ m, ls[k]? = some m := ⟨_, List.getElem?_eq_getElem hlt⟩
          rcases hA with hz | rfl
          · omega
          obtain ⟨b', off', e', hbw, hnG, hc⟩ := (HL.out.fr (hP.out.2.1.toFr'')) (by omega)
          obtain ⟨rfl, rfl⟩ : bA = b' ∧ offA = off' := by injection e' with e1; injection e1 with e1 e2; exact ⟨e1, e2⟩
          obtain ⟨hd1, hd2, hd3, hwf, hxl, hsl⟩ := hc k m hm
          obtain ⟨hpm, hm0⟩ := HPG.out.2 k m hm
          have HSL := Lib.hid hsl
          have HPM := Lib.hid hpm
          clear hc e' hsl hm hpm
          obtain ⟨mn, ml, mA, mc, mxs⟩ := m
          obtain ⟨N, rfl⟩ := Int.eq_ofNat_of_zero_le hm0
          have hxl : mxs.length ≤ 4611686018427387904 := hxl
          have hpm : pgs[N]? = some (ml, mxs) := by have := HPM.out; simpa using this
          have HPN := Lib.hid hpm
          clear hpm hwf hm0
          go_wp2_with fail
          refine (tread_ok wr hP.out.1 HRD.out N ml mxs HPN.out (by rw [HPG.out.1]; omega)).mono ?_
          rintro e w8 ⟨⟨A8, c8, rfl, hs8⟩, b8⟩
          have HB8a := Lib.hid (b8.alloc b8.size (.cells #[.int .i64 ml, .slice A8 mxs.length c8] 25))
          have HX8 := Lib.hid (Blk.new w8 25 #[.int .i64 ml, .slice A8 mxs.length c8])
          have HSL8 := Lib.hid ((hs8.fr ((Fr.refl _ w8).alloc (.cells #[.int .i64 ml, .slice A8 mxs.length c8] 25))).mono (F' := Nope) (fun _ _ h => h.elim))
          have HSM8 := Lib.hid ((HSL.out.fr ((Fr.refl _ _).below HB8a.out)).mono (F' := Nope) (fun _ _ h => h.elim))
          have he1 := (HB8a.out.cell (p := ⟨bA, offA + k * 3 + 1, none⟩) hbw).trans hd2
          have he2 := (HB8a.out.cell (p := ⟨bA, offA + k * 3 + 2, none⟩) hbw).trans hd3
          have hx0 := HX8.out.cell 0
          have hx1 := HX8.out.cell 1
          simp only [List.getElem?_toArray] at hx0 hx1
          clear b8 hs8 hd1 hd2 hd3
          go_upto_region 25 with fail
          revert HB8a HX8 HSL8 HSM8 he1 he2 hx0 hx1
          generalize w8.alloc (.cells #[.int .i64 ml, .slice A8 mxs.length c8] 25) = W8
          intro HB8a HX8 HSL8 HSM8 he1 he2 hx0 hx1
          go_still_tail 9, (by kernel_rfl)
          change wpList _ _ _ _ _ W8.drew
          have HD8 : Hid (Below wr.heap.size wr W8.drew ∧ Slots W8.drew Nope A8 mxs ∧ Slots W8.drew Nope mA mxs) := ⟨HB8a.out.drew, HSL8.out, HSM8.out⟩
          clear HB8a HX8 HSL8 HSM8 he1 he2 hx0 hx1
          revert HD8
          generalize W8.drew = W9
          intro HD8
          have hml : mxs.length ≤ 4611686018427387904 := hxl
          go_wp2_with fail
          refine (same_any W9 Nope ml ml A8 mA c8 mc mxs mxs HD8.out.2.1 HD8.out.2.2 hml hml).mono ?_
          rintro e w10 ⟨rfl, b10⟩
          have HB10 := Lib.hid (HD8.out.1.trans (b10.mono HD8.out.1.size))
          rw [show sameP ml ml mxs mxs = true by simp [sameP]]
          clear b10
          go_wp2_with fail
          go_roundw
          case rel => exact ⟨k + 1, by go_num, by omega, hP.out.1.below HB10.out, hP.out.2.1.trans (HB10.out.mono hP.out.2.1.size), hP.out.2.2.below HB10.out hP.out.2.2.lt⟩
          case measure => simp [intOf]; omega
        · obtain rfl : k = ls.length := by omega
          go_wp2_with fail
          refine (tread_nil _ 0).mono ?_
          rintro e w8 ⟨rfl, b8⟩
          have HB8 := Lib.hid (b8.alloc b8.size (.cells #[.int .i64 0, .slice none 0 0] 25))
          have HX8 := Lib.hid ((hP.out.2.2.below HB8.out hP.out.2.2.lt))
          have hx0 := HX8.out.cell 0
          have hx1 := HX8.out.cell 1
          have hx2 := HX8.out.cell 2
          simp only [List.getElem?_toArray] at hx0 hx1 hx2
          clear b8
          go_wp2_with fail
          have HBw := Lib.hid (hP.out.2.1.trans (HB8.out.mono hP.out.2.1.size))
          have HH8 := Lib.hid (hP.out.1.below HB8.out)
          have HSo := Lib.hid (HS.out.fr (HBw.out.toFr''))
          clear hx0 hx1 hx2
          have hwsz : (w8.alloc (.cells #[.int .i64 0, .slice none 0 0] 25)).heap.size = w8.heap.size + 1 := by simp
          have HWS := Lib.hid hwsz
          clear hwsz
          revert HBw HH8 HSo HWS
          generalize w8.alloc (.cells #[.int .i64 0, .slice none 0 0] 25) = W8
          intro HBw HH8 HSo HWS
          have hev2 : twWrite false s7 0 0 3 pgs [⟨n, l, oA, oc, oxs⟩, ⟨n, l, oA, oc, oxs⟩] = (false, s7, pgs, 1) := by
            unfold twWrite
            rw [HRD.out, if_neg (by simp), if_pos (.inl (fitsP_two _ _))]
          have HEV2 := Lib.hid hev2
          have hL2 := (leaves_two (l := l) (c := oc) (HSo.out.mono (F' := fun j => w2.heap.size ≤ j ∧ j < W8.heap.size) (fun j _ h => by have := HB2.out.size; omega)) HN.out hx (by omega))
          rw [HWS.out] at hL2
          have HL2 := Lib.hid (hL2.mono (F' := fun j => w2.heap.size ≤ j ∧ j < W8.heap.size) (fun j _ h => by have := HWS.out; omega))
          clear hev2 hL2
          refine (twrite_to W8 _ HH8.out ((Below.refl _ _).alloc (Nat.le_refl _) _) _ 2 _ HL2.out (by simp) (by omega) (by omega) (by rw [HPG.out.1]; omega) (by rw [HS7.out.1]; omega) (by have := HS7.out.2.1; omega) _ _ _ _ HEV2.out).mono ?_
          rintro e w9 ⟨rfl, h9, b9⟩
          have HB9 := Lib.hid (HBw.out.trans ((((Below.refl _ _).alloc (Nat.le_refl _) _).mono (by have := HBw.out.size; omega)).trans (b9.mono HB2.out.size)))
          clear b9 h9
          go_wp2_with fail
          refine (twrite_nil _).mono ?_
          rintro e w10 ⟨rfl, b10⟩
          have HB10 := Lib.hid (HB9.out.trans (b10.mono HB9.out.size))
          clear b10
          go_wp2_with fail
          go_ret
          exact ⟨rfl, HB10.out⟩
  · go_wp2_with fail
    go_ret
    exact ⟨rfl, HB2.out⟩

end Go.Proofs.YtbikplckehbcnaaDoor
