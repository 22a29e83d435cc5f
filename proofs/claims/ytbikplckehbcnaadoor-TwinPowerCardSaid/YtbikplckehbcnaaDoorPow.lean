/- TwinPower: no page is ever lost: the walk. -/
import Derived.Test.YtbikplckehbcnaaDoorPowU
import Derived.Deep.DeepCutAuto
import Derived.Deep.CutBlock
set_option linter.unusedVariables false
set_option linter.unusedSimpArgs false
namespace Go.Proofs.YtbikplckehbcnaaDoor
open Go Go.RowKit

/-- A group as it lies in memory. -/
structure GrM where
  A : Option Addr
  c : Nat
  xs : List Int
  b : Int
def Grps (w : World) (A : Option Addr) (gs : List GrM) : Prop :=
  0 < gs.length → ∃ b off, A = some ⟨b, off, none⟩ ∧ b < w.heap.size ∧ ∀ (j : Nat) (m : GrM), gs[j]? = some m → w.cell? ⟨b, off + j * 2, none⟩ = some (.slice m.A m.xs.length m.c) ∧ w.cell? ⟨b, off + j * 2 + 1, none⟩ = some (.int .u8 m.b) ∧ Ints w (fun k => w.heap.size ≤ k) m.A m.xs ∧ 0 ≤ m.b ∧ m.b < 256

/-- The store and the row of what is sure, in memory. -/
def PowM (B : Nat) (wr : World) (p q gs c : Nat) (s : PSt) (life : Int) (storeL rowL : List Pg) : Prop :=
  ∃ F pv qs ps, StAt 0 wr F q p pv 0 3 life false s qs ∧ qs.map PgM.pg = storeL ∧ (∀ j, Ows F q pv j → B ≤ j) ∧ Rw wr (fun j => Ows F q pv j ∨ j = gs) gs c ps ∧ ¬ Ows F q pv gs ∧ B ≤ gs ∧ ps.map PgM.pg = rowL
theorem ows_sub {w : World} {F F' : Nat → Prop} {q : Nat} {pv : Value} (h : Sub w F F') : Sub w (Ows F q pv) (Ows F' q pv) := fun k hk => by
  rcases hk with hk | hk
  · rcases h k hk with h | h
    · exact .inl (.inl h)
    · exact .inr h
  · exact .inl (.inr hk)
theorem sub_or {w : World} {F F' : Nat → Prop} (G : Nat → Prop) (h : Sub w F F') : Sub w (fun k => F k ∨ G k) (fun k => F' k ∨ G k) := fun k hk => by
  rcases hk with hk | hk
  · rcases h k hk with h | h
    · exact .inl (.inl h)
    · exact .inr h
  · exact .inl (.inr hk)

/-- At the loop's head. -/
structure PowI (B : Nat) (w wr : World) (p q gs c : Nat) (s : PSt) (sureL : List Pg) (k z : Nat) : Prop where
  mem : PowM B wr p q gs c s s.life sureL sureL
  inv : Inv s.secs sureL k
  up : s.down = false
  ar : 0 ≤ s.armed
  cn : s.count = 16
  qu : s.queue = []
  ac : s.acts ≤ 20 * k + 6 * z + 10
  li : s.life ≤ 4 * k + 4 * z
  be : Below B w wr

/-- Between two openings. -/
def PowN (B : Nat) (wr : World) (p gs c gn cn : Nat) (s : PSt) (sureL next : List Pg) : Prop :=
  ∃ F ps nps, IsPlate wr F p s ∧ (∀ j, F j → B ≤ j ∧ j < wr.heap.size) ∧ Rw wr (fun j => (F j ∨ j = gs) ∨ j = gn) gs c ps ∧ Rw wr (fun j => (F j ∨ j = gs) ∨ j = gn) gn cn nps ∧ ¬ F gs ∧ ¬ F gn ∧ gs ≠ gn ∧ B ≤ gs ∧ B ≤ gn ∧ ps.map PgM.pg = sureL ∧ nps.map PgM.pg = next
theorem PowN.go {B : Nat} {wr w' : World} {p gs c gn cn : Nat} {s' : PSt} {sureL next : List Pg} {F F' : Nat → Prop} {ps nps : List PgM} (hB : B ≤ wr.heap.size) (hFl : ∀ j, F j → B ≤ j ∧ j < wr.heap.size) (h1 : Rw wr (fun j => (F j ∨ j = gs) ∨ j = gn) gs c ps) (h2 : Rw wr (fun j => (F j ∨ j = gs) ∨ j = gn) gn cn nps) (h3 : ¬ F gs) (h4 : ¬ F gn) (h5 : gs ≠ gn) (h6 : B ≤ gs) (h7 : B ≤ gn) (h8 : ps.map PgM.pg = sureL) (h9 : nps.map PgM.pg = next)
    (hp : IsPlate w' F' p s') (hl : ∀ k, F' k → k < w'.heap.size) (hf : Fr F wr w') (hs : Sub wr F F') : PowN B w' p gs c gn cn s' sureL next ∧ Below B wr w' := by
  refine ⟨⟨F', ps, nps, hp, fun j hj => ⟨?_, hl j hj⟩, h1.step hf (fun k hk => .inl (.inl hk)) h3 (sub_or _ (sub_or _ hs)), h2.step hf (fun k hk => .inl (.inl hk)) h4 (sub_or _ (sub_or _ hs)), ?_, ?_, h5, h6, h7, h8, h9⟩, hf.toBelow hB (fun k hk => (hFl k hk).1)⟩
  · rcases hs j hj with h | h
    · exact (hFl j h).1
    · omega
  · intro h
    rcases hs gs h with h | h
    · exact h3 h
    · have := h1.lt; omega
  · intro h
    rcases hs gn h with h | h
    · exact h4 h
    · have := h2.lt; omega
structure PowJ (B : Nat) (w wr : World) (p gs c gn cn : Nat) (s : PSt) (sureL next : List Pg) (i : Int) (k z : Nat) : Prop where
  mem : PowN B wr p gs c gn cn s sureL next
  mid : Mid s sureL next i
  ar : s.armed = 0
  ac : s.acts ≤ 20 * k + 6 * z + 18
  li : s.life ≤ 4 * k + 4 * z + 1
  be : Below B w wr

def zeroPgs : List PgM := List.replicate 5 ⟨0, none, 0, []⟩
def sure0 : List Pg := List.replicate 5 (0, [])
def fr16 : PSt := ⟨16, fun _ => none, [], false, 0, 0, 0⟩
theorem fresh16 : PSt.fresh 16 = fr16 := by unfold PSt.fresh fr16; rw [show min (max (16 : Int) 1) 16384 = 16 by decide]
theorem inv16 : Inv fr16.secs sure0 0 := ⟨rfl, fun n hn => ⟨(0, []), by unfold sure0; rw [List.getElem?_replicate, if_pos hn], .inl ⟨rfl, rfl⟩⟩, fun j _ n _ x hx => by simp [twF, fr16] at hx, fun a t h => by simp [fr16] at h⟩
theorem mid16 : Mid fr16 sure0 sure0 0 := ⟨rfl, by decide, rfl, rfl, inv16.rec_ rfl⟩
/-- The first opening. -/
theorem open16 : ∃ s', openP fr16 0 3 5 = (s', some sure0, 0) ∧ s'.down = false ∧ 0 ≤ s'.armed ∧ s'.count = 16 ∧ s'.queue = [] ∧ s'.life = 0 ∧ 0 ≤ s'.acts ∧ s'.acts ≤ 6 ∧ Inv s'.secs sure0 0 := by
  obtain ⟨s', ps, e, h1, h2, h3, h4, h5, h6, h7, hi, hps⟩ := mid_final mid16 rfl
  have : ps = sure0 := by
    apply List.ext_getElem?
    intro n
    by_cases hn : n < 5
    · obtain ⟨x, a, b⟩ := hps n hn
      rw [a]
      rcases b with b | b <;> exact b.symm
    · rw [List.getElem?_eq_none (by rw [hi.ln]; omega), List.getElem?_eq_none (by show 5 ≤ n; omega)]
  subst this
  exact ⟨s', e, h1, h2, h3, h4, h5, h6, h7, hi⟩
theorem run_mkpg (w : World) : (Instr.makeSlice 49 (.int .i64 5) (.int .i64 5)).run Tryd.prog w = .ok (.slice (some ⟨w.heap.size, 0, none⟩) 5 5) (w.alloc (.cells (pgCells zeroPgs).toArray 25)) := by
  have e : (pgCells zeroPgs).toArray = madeCells #[.int .i64 0, .slice none 0 0] 10 := by kernel_rfl
  rw [e]
  obtain ⟨i, hi, hz⟩ := Option.map_eq_some_iff.1 page_info3
  simp only [Prod.mk.injEq] at hz
  have := run_make (P := Tryd.prog) w 49 25 i (.agg #[.int .i64 0, .slice none 0 0]) Tryd.underlying49 hi hz.1 .i64 .i64 5 5 (by omega) (by omega) (by rw [hz.2.2]; omega) (by omega)
  rw [hz.2.1] at this
  exact this
theorem rw_zero (w : World) (AV : Nat → Prop) : Rw (w.alloc (.cells (pgCells zeroPgs).toArray 25)) AV w.heap.size 5 zeroPgs := by
  refine ⟨?_, fun m hm => ?_⟩
  · have := World.ownsRow_lit (base := 0) (e := 25) (size := 2) w (pgCells zeroPgs).toArray 5 (by omega) (by decide) rfl
    exact this
  · obtain rfl := List.eq_of_mem_replicate hm
    exact ⟨by decide, Slots.nil _ _ _⟩

theorem pgCells_oneCell (ps : List PgM) : ∀ u ∈ pgCells ps, u.oneCell' = true := by
  intro u hu
  obtain ⟨x, _, hx⟩ := List.mem_flatMap.1 hu
  simp at hx
  rcases hx with rfl | rfl <;> rfl
theorem Leaves.step {w w' : World} {G G' : Nat → Prop} {A : Option Addr} {ls : List LfM} (h : Leaves w G A ls) (hf : Fr G w w') (hs : Sub w G G') : Leaves w' G' A ls := fun hn => by
  obtain ⟨b, off, e, hb, hG, hc⟩ := h.fr hf hn
  obtain ⟨b', off', e', hb', _, hc'⟩ := h hn
  obtain ⟨rfl, rfl⟩ : b = b' ∧ off = off' := by rw [e] at e'; injection e' with e1; injection e1 with e1 e2; exact ⟨e1, e2⟩
  refine ⟨b, off, e, hb, fun hg => by rcases hs b hg with h1 | h1; exact hG h1; omega, fun j m hm => ?_⟩
  obtain ⟨h1, h2, h3, h4, h5, h6⟩ := hc j m hm
  exact ⟨h1, h2, h3, h4, h5, (hc' j m hm).2.2.2.2.2.step hf hs⟩
theorem lad_fits {lo : Nat} {w : World} {v : Value} {ls : List LfM} {lsn b : Int} (h : Lad lo w v ls lsn b) (h0 : 0 ≤ lsn ∧ lsn ≤ 1000) : fitsP 5 ls = true ∧ ∀ m ∈ ls, m.l = lsn := by
  refine ⟨?_, fun m hm => (h.sl m hm).1.2.2.2⟩
  unfold fitsP
  simp only [Bool.and_eq_true, decide_eq_true_eq, List.all_eq_true]
  refine ⟨fun m hm => ?_, h.nd⟩
  obtain ⟨e1, e2, e3, e4⟩ := (h.sl m hm).1
  refine ⟨⟨e2, e3⟩, ?_⟩
  rw [e1, e4]
  have hs : (strOfNums [b]).size = 1 := by rw [strOfNums_size]; rfl
  unfold goodP
  have h2 : odd (true, strOfNums [b]) = false := by unfold odd; simp [hs]
  simp only [List.any_cons, h2, List.any_nil, sizeP, lastUsed, List.length_singleton, List.map_cons, List.map_nil, List.sum_cons, List.sum_nil, hs]
  simp
  omega

set_option maxRecDepth 100000 in
set_option maxHeartbeats 16000000 in
theorem power_any (w : World) (A0 : Option Addr) (c0 : Nat) (grps : List GrM) (hg : Grps w A0 grps) (hlen : grps.length ≤ 17592186044416) (pA : Option Addr) (pc : Nat) (pxs : List Int) (hp : Ints w (fun k => w.heap.size ≤ k) pA pxs)
    (fA : Option Addr) (fc : Nat) (fxs : List Int) (hf : Ints w (fun k => w.heap.size ≤ k) fA fxs) :
    Calls Tryd.prog 4 #[.slice A0 grps.length c0, .agg #[.slice pA pxs.length pc, .slice fA fxs.length fc]] w fun e w' => e = .returned (.bool true) ∧ Below w.heap.size w w' := by
  have HG := Lib.hid hg
  have HP := Lib.hid hp
  have HF := Lib.hid hf
  have hpl := hp.1
  have hfl := hf.1
  clear hg hp hf
  have HX := Lib.hid (Blk.new w 48 #[.slice pA pxs.length pc, .slice fA fxs.length fc])
  have HB := Lib.hid ((Below.refl w.heap.size w).alloc (Nat.le_refl _) (.cells #[.slice pA pxs.length pc, .slice fA fxs.length fc] 48))
  have hmk := run_mkpg
  go_enter Tryd.func4, Tryd.ntmps4
  go_wp2_with fail
  refine (awakeT_any _).mono ?_
  rintro e w1 ⟨rfl, b1⟩
  have HX1 := Lib.hid (HX.out.below b1 HX.out.lt)
  have HB1 := Lib.hid (HB.out.trans (b1.mono HB.out.size))
  have hwl1 := HX1.out.lt
  clear b1
  go_wp2_with fail
  refine (new_is w1 16).mono ?_
  rw [fresh16]
  rintro e w2 ⟨rfl, h2, b2, s2⟩
  have HP2 := Lib.hid h2
  have HB2 := Lib.hid b2
  have HS2 := Lib.hid s2
  clear h2 b2 s2
  go_wp2_with fail
  obtain ⟨sa, hsa, hup, har, hcn, hqu, hli, hac0, hac, hinv⟩ := open16
  have HSA := Lib.hid (And.intro hsa (And.intro hup (And.intro har (And.intro hcn (And.intro hqu (And.intro hli (And.intro hac0 (And.intro hac hinv))))))))
  clear hsa hup har hcn hqu hli hac0 hac hinv
  refine (open_at (lo := 0) w2 HP2.out (fun k hk => ⟨by omega, by have := HS2.out; rcases hk with rfl | rfl <;> omega⟩) 0 3 5 (by omega) (by omega) (by decide) rfl (by decide) (by decide) (fun n t h => by simp [fr16] at h)).mono ?_
  rintro e w3 ⟨ho, f3⟩
  have HF3 := Lib.hid f3
  clear f3
  rcases ho with ⟨s', r', F', hR, _⟩ | ⟨s', ps', q, F, pv, qs, hR, rfl, hst, hqs, hsub⟩
  · rw [HSA.out.1] at hR
    simp at hR
  · rw [HSA.out.1] at hR
    obtain ⟨rfl, rfl⟩ : sa = s' ∧ sure0 = ps' := by simpa using hR
    clear hR
    have HST := Lib.hid hst
    have HQS := Lib.hid hqs
    have HOW : Hid (∀ j, Ows F q pv j → w1.heap.size ≤ j) := fun j hj => by
      rcases hsub j hj with h | h
      · rcases h with rfl | rfl <;> omega
      · have := HB2.out.size; omega
    have HB3 : Hid (Below w1.heap.size w1 w3) := HB2.out.trans (HF3.out.toBelow (Nat.le_trans HB2.out.size (Nat.le_refl _)) (fun k hk => by rcases hk with rfl | rfl <;> omega))
    clear hst hqs hsub
    go_upto_region 9 with fail
    have HBm := Lib.hid (HB3.out.alloc HB3.out.size (.cells (pgCells zeroPgs).toArray 25))
    have HRm : Hid (Rw (w3.alloc (.cells (pgCells zeroPgs).toArray 25)) (fun j => Ows F q pv j ∨ j = w3.heap.size) w3.heap.size 5 zeroPgs) := rw_zero w3 _
    have HSm := Lib.hid (HST.out.below ((Below.refl w3.heap.size w3).alloc (Nat.le_refl _) (.cells (pgCells zeroPgs).toArray 25)))
    have HLm : Hid (w3.heap.size < (w3.alloc (.cells (pgCells zeroPgs).toArray 25)).heap.size ∧ w1.heap.size ≤ w3.heap.size ∧ ¬ Ows F q pv w3.heap.size) := ⟨by simp, HB3.out.size, fun h => by have := (HST.out.own_lo _ h).2; omega⟩
    clear hmk
    revert HBm HRm HSm HLm
    generalize w3.alloc (.cells (pgCells zeroPgs).toArray 25) = w4
    generalize w3.heap.size = gs
    intro HBm HRm HSm HLm
    have HX4 := Lib.hid (HX1.out.below HBm.out HX1.out.lt)
    have hx0 := HX4.out.cell 0
    simp only [List.getElem?_toArray] at hx0
    go_upto_if 34 with fail
    go_cut [5] (fun p5 wx => ∃ s, p5 = .pointer (some ⟨w1.heap.size + 1, 0, none⟩) ∧ PowI w1.heap.size w1 wx (w1.heap.size + 1) q gs 5 s sure0 0 0)
    case first =>
      by_cases hz : 0 < pxs.length
      · obtain ⟨ad, hpA, hbw, _, hc⟩ := HP.out.2 hz
        subst hpA
        have hb14 := Lib.hid (HB1.out.trans (HBm.out.mono HB1.out.size))
        obtain ⟨x0, hx0'⟩ : ∃ x0, pxs.getD 0 0 = x0 := ⟨_, rfl⟩
        have hd0 := (hb14.out.cell (p := ad.add 0) (by rw [add_block]; exact hbw)).trans (hc 0 hz)
        rw [hx0'] at hd0
        have hd1 : w4.cell? ad = some (.int .i64 x0) := by rw [show ad.add 0 = ad by simp [Addr.add]] at hd0; exact hd0
        obtain ⟨u1, u2, u3⟩ := umod x0 40 (by omega) (by omega)
        have HU : Hid (0 ≤ wrap64 ((IntKind.u64.wrap x0).tmod 40) ∧ wrap64 ((IntKind.u64.wrap x0).tmod 40) < 40) := by unfold Hid; rw [u3]; exact ⟨u1, u2⟩
        clear u1 u2 u3 hc hx0'
        go_wp2_with fail
        revert HU
        generalize wrap64 ((IntKind.u64.wrap x0).tmod 40) = N
        intro HU
        refine (arm_is w4 F _ sa N HSm.out.pl (by have := HU.out; omega)).mono ?_
        rintro e w5 ⟨rfl, hL⟩
        obtain ⟨F5, h5, hf5, hs5⟩ := HSm.out.left2 hL
        have HH5 := Lib.hid h5
        have HF5 := Lib.hid hf5
        have HS5 := Lib.hid hs5
        clear hL h5 hf5 hs5
        go_wp2_with fail
        go_meet
        have hms : (sa.arm N).life = sa.life := rfl
        refine ⟨sa.arm N, rfl, ⟨⟨F5, pv, qs, zeroPgs, ?_, HQS.out, ?_, ?_, ?_, HLm.out.2.1, rfl⟩, HSA.out.2.2.2.2.2.2.2.2, HSA.out.2.1, (mid16.arm N).ar, HSA.out.2.2.2.1, HSA.out.2.2.2.2.1, ?_, ?_, ?_⟩⟩
        · have := HH5.out; rw [show fr16.life = sa.life by rw [HSA.out.2.2.2.2.2.1]; rfl] at this; exact this
        · intro j hj
          rcases ows_sub HS5.out j hj with h | h
          · exact HOW.out j h
          · have := HLm.out; omega
        · exact HRm.out.step HF5.out (fun k hk => .inl (.inl hk)) (fun h => HLm.out.2.2 (.inl h)) (sub_or _ (ows_sub HS5.out))
        · intro h
          rcases ows_sub HS5.out gs h with h | h
          · exact HLm.out.2.2 h
          · have := HLm.out; omega
        · show sa.acts ≤ _; have := HSA.out.2.2.2.2.2.2.2.1; omega
        · show sa.life ≤ _; have := HSA.out.2.2.2.2.2.1; omega
        · exact HBm.out.trans (HF5.out.toBelow (by have := HLm.out; omega) (fun k hk => HOW.out k (.inl hk)))
      · have hz0 : pxs.length = 0 := by omega
        go_wp2_with fail
        go_meet
        refine ⟨sa, rfl, ⟨⟨F, pv, qs, zeroPgs, ?_, HQS.out, HOW.out, HRm.out, HLm.out.2.2, HLm.out.2.1, rfl⟩, HSA.out.2.2.2.2.2.2.2.2, HSA.out.2.1, HSA.out.2.2.1, HSA.out.2.2.2.1, HSA.out.2.2.2.2.1, ?_, ?_, HBm.out⟩⟩
        · have := HSm.out; rw [show fr16.life = sa.life by rw [HSA.out.2.2.2.2.2.1]; rfl] at this; exact this
        · have := HSA.out.2.2.2.2.2.2.2.1; omega
        · have := HSA.out.2.2.2.2.2.1; omega
    case rest =>
      obtain ⟨s0, rfl, hI⟩ := hcut
      have HI := Lib.hid hI
      clear hI HX4 HLm HRm HSm HBm HST HQS HOW HB3 hx0 HF3 HP2
      obtain ⟨bG, offG, hA0⟩ : ∃ b off, grps.length = 0 ∨ A0 = some ⟨b, off, none⟩ := by
        rcases Nat.eq_zero_or_pos grps.length with hz | hz
        · exact ⟨0, 0, .inl hz⟩
        · obtain ⟨b, off, e, _⟩ := HG.out hz
          exact ⟨b, off, .inr e⟩
      go_wp2_with fail
      go_loopw [6, 8, 9, 10] (fun sv rv zv iv wr => ∃ (k z q gs c : Nat) (s : PSt) (sureL : List Pg), sv = .pointer (some ⟨q, 0, none⟩) ∧ rv = .slice (some ⟨gs, 0, none⟩) 5 c ∧ zv = .int .i64 z ∧ iv = .int .i64 k ∧ k ≤ 30 ∧ k ≤ grps.length ∧ z ≤ 5 ∧ Hid (PowI w1.heap.size w1 wr (w1.heap.size + 1) q gs c s sureL k z)) (fun _ _ _ iv _ => 30 - (intOf iv).toNat)
      case atStart => exact ⟨0, 0, q, gs, 5, s0, sure0, rfl, rfl, rfl, rfl, by omega, by omega, by omega, HI.out⟩
      case round =>
        clear HI
        obtain ⟨k, z, q, gs, c, s, sureL, rfl, rfl, rfl, rfl, hk30, hkl, hz5, hI⟩ := hrel
        obtain ⟨wo, rfl⟩ : ∃ wo : World, wo = wr := ⟨_, rfl⟩
        obtain ⟨F, pv, qs, ps, hst, hqs, how, hrw, hng, hgs, hps⟩ := hI.out.mem
        have HST := Lib.hid hst
        have HQS := Lib.hid hqs
        have HOW := Lib.hid how
        have HRW := Lib.hid hrw
        have HNG := Lib.hid hng
        have HGS := Lib.hid hgs
        have HPS := Lib.hid hps
        have HPL5 : Hid (ps.length = 5) := by have := hI.out.inv.ln; rw [← hps, List.length_map] at this; exact this
        clear hst hqs how hrw hng hgs hps
        have HBW : Hid (Below w.heap.size w wo) := HB1.out.trans (hI.out.be.mono HB1.out.size)
        by_cases hgo : k < grps.length ∧ k < 30
        · obtain ⟨hlt, hk⟩ := hgo
          · obtain ⟨m, hm⟩ : ∃ m, grps[k]? = some m := ⟨_, List.getElem?_eq_getElem hlt⟩
            rcases hA0 with hz | rfl
            · omega
            obtain ⟨b', off', e', hbw, hc⟩ := HG.out (by omega)
            obtain ⟨rfl, rfl⟩ : bG = b' ∧ offG = off' := by injection e' with e1; injection e1 with e1 e2; exact ⟨e1, e2⟩
            obtain ⟨hc1, hc2, hci, hb0, hb1⟩ := hc k m hm
            have hd1 := (HBW.out.cell (p := ⟨bG, offG + k * 2, none⟩) hbw).trans hc1
            have hd2 := (HBW.out.cell (p := ⟨bG, offG + k * 2 + 1, none⟩) hbw).trans hc2
            have HCI := Lib.hid (hci.fr (HBW.out.toFr''))
            clear hc hc1 hc2 hci e' hm
            obtain ⟨mA, mc, mxs, mb⟩ := m
            have hb0 : 0 ≤ mb := hb0
            have hb1 : mb < 256 := hb1
            go_wp2_with fail
            refine (laid_any wo _ mA mc mxs HCI.out mb _ ⟨hb0, hb1⟩).mono ?_
            rintro e w5 ⟨⟨v5, ls, rfl, hl3, hlad⟩, b5⟩
            have hfl := lad_fits hlad (by omega)
            obtain ⟨A1, c1, rfl, hlv⟩ := hlad.leaves
            have HFL := Lib.hid hfl
            have HLV := Lib.hid hlv
            have HB5 := Lib.hid b5
            have hwr5 := b5.size
            have HRW5 := Lib.hid (HRW.out.below b5)
            clear hfl hlv b5 hlad hd1 hd2
            obtain ⟨i0, hi, hz⟩ := Option.map_eq_some_iff.1 page_info3
            simp only [Prod.mk.injEq] at hz
            have HZ := Lib.hid hz
            have HIN := Lib.hid hi
            clear hz hi
            have HRWa := Lib.hid (HRW5.out.below ((Below.refl w5.heap.size w5).alloc (Nat.le_refl _) (.cells #[] 25)))
            have HC : Hid (∀ j u, (pgCells ps)[j]? = some u → (w5.alloc (.cells #[] 25)).cell? (Addr.add ⟨gs, 0, none⟩ j) = some u) := fun j u hu => HRWa.out.row.cells (g := gs) rfl j u hu
            have HLEN : Hid ((pgCells ps).length = 5 * 2) := by unfold Hid; rw [pgCells_length, HPL5.out]
            have HBa := Lib.hid (HB5.out.alloc HB5.out.size (.cells #[] 25))
            go_wp2_with (at_builtin; refine wpList_append_arg _ rfl _ _ 49 rfl 25 i0 (.agg #[.int .i64 0, .slice none 0 0]) 2 32 Tryd.underlying49 HIN.out HZ.out.1 HZ.out.2.1 HZ.out.2.2 rfl (by decide) w5.heap.size 0 0 0 [] rfl rfl (by simp) ⟨gs, 0, none⟩ 5 c (pgCells ps) rfl HLEN.out HC.out (pgCells_oneCell ps) ?g1 ?g2 ?g3 ?g4 ?g5; (case g1 => intro h; omega); (case g2 => simp only [maxLen]; omega); (case g3 => omega); (case g4 => intro h; omega); intro _ v6 w6 hown hgrow; have HOWN := Lib.hid hown; have HGROW := Lib.hid hgrow; clear hown hgrow)
            obtain ⟨gn, cn, hv6, _⟩ := HOWN.out.form (by omega)
            rw [Nat.zero_add] at hv6
            subst hv6
            have hgn := HOWN.out.lt gn rfl
            have hgn1 : w5.heap.size < gn := by have := hgn.1; simp at this; omega
            have HB6 : Hid (Below wo.heap.size wo w6) := HBa.out.trans (((Fr.refl Nope _).grown HGROW.out (fun k hk => by cases hk)).toBelow HBa.out.size (fun k hk => hk.elim))
            have HAV : Hid (∀ j, (Ows F q pv j ∨ j = gs) → j < wo.heap.size) := fun j hj => by
              rcases hj with hj | rfl
              · exact (HST.out.own_lo j hj).2
              · exact HRW.out.lt
            have HRS6 : Hid (Rw w6 (fun j => (Ows F q pv j ∨ j = gs) ∨ j = gn) gs c ps) := HRW.out.step ((Fr.refl Nope wo).below HB6.out) (fun _ h => h.elim) (fun h => h) (fun j hj => by
              rcases hj with hj | rfl
              · exact .inl hj
              · exact .inr (by omega))
            have HRN6 : Hid (Rw w6 (fun j => (Ows F q pv j ∨ j = gs) ∨ j = gn) gn cn ps) := by
              refine ⟨?_, HRS6.out.sl⟩
              have h0 := HOWN.out
              rw [Nat.zero_add, List.nil_append] at h0
              rw [HPL5.out]
              exact own_base0 h0 (fun _ _ => Nat.zero_le _)
            have HLV6 : Hid (Leaves w6 (fun j => j < wo.heap.size ∨ j = gn) A1 ls) := (HLV.out.mono (F' := fun j => j < wo.heap.size ∨ j = gn) (fun j hj h => by omega)).step ((Fr.refl _ w5).below ((((Below.refl w5.heap.size w5).alloc (Nat.le_refl _) (.cells #[] 25))).trans (((Fr.refl Nope _).grown HGROW.out (fun k hk => by cases hk)).toBelow (by simp) (fun k hk => hk.elim)))) (Sub.refl _ _)
            have HST6 := Lib.hid (HST.out.below HB6.out)
            have HW6 : Hid (wo.heap.size ≤ w6.heap.size) := HB6.out.size
            obtain ⟨bL, offL, hA1⟩ : ∃ b off, ls.length = 0 ∨ A1 = some ⟨b, off, none⟩ := by
              rcases Nat.eq_zero_or_pos ls.length with hz | hz
              · exact ⟨0, 0, .inl hz⟩
              · obtain ⟨b, off, e, _⟩ := HLV.out hz
                exact ⟨b, off, .inr e⟩
            clear HC HLEN HRWa HRW5 HBa hgn HGROW HOWN HIN HZ
            go_loopw [13] (fun jv wx => ∃ (j : Nat) (nps : List PgM), jv = .int .i64 j ∧ j ≤ ls.length ∧ nps.length = 5 ∧ Hid (nps.map PgM.pg = laidP sureL (ls.take j)) ∧ Hid (Rw wx (fun j => (Ows F q pv j ∨ j = gs) ∨ j = gn) gn cn nps) ∧ Hid (Fr (One gn) w6 wx)) (fun jv _ => ls.length - (intOf jv).toNat)
            case atStart => exact ⟨0, ps, rfl, by omega, HPL5.out, by unfold Hid; rw [HPS.out]; rfl, HRN6.out, Fr.refl _ _⟩
            case round =>
              obtain ⟨j, nps, rfl, hj, hnl, hN, hRN, hFN⟩ := hrel
              by_cases hjl : j < ls.length
              · obtain ⟨lm, hlm⟩ : ∃ lm, ls[j]? = some lm := ⟨_, List.getElem?_eq_getElem hjl⟩
                rcases hA1 with hz | rfl
                · omega
                obtain ⟨b', off', e', hbL, hnL, hcL⟩ := (HLV6.out.fr (hFN.out.mono (fun k hk => .inr hk))) (by omega)
                obtain ⟨rfl, rfl⟩ : bL = b' ∧ offL = off' := by injection e' with e1; injection e1 with e1 e2; exact ⟨e1, e2⟩
                obtain ⟨hl0, hl1, hl2, hwf, hlx, hsl⟩ := hcL j lm hlm
                have HSLm := Lib.hid (hsl.mono (F' := fun j => (Ows F q pv j ∨ j = gs) ∨ j = gn) (fun i _ hi => by rcases hi with hi | hi; exact .inl (HAV.out i hi); exact .inr hi))
                obtain ⟨hm0, hm5, hgd⟩ := (fitsP_mem HFL.out.1).1 lm (List.mem_of_getElem? hlm)
                have HLM := Lib.hid hlm
                have hxs32 : lm.xs.length ≤ 32 := (goodP_iff.1 hgd).n
                clear hcL e' hsl hlm hgd hnL hbL hwf hlx
                obtain ⟨ln, ll, lA, lc, lxs⟩ := lm
                have hm0 : 0 ≤ ln := hm0
                have hm5 : ln < 5 := hm5
                have hxs32 : lxs.length ≤ 32 := hxs32
                obtain ⟨N, rfl⟩ := Int.eq_ofNat_of_zero_le hm0
                have hN5 : N < 5 := by omega
                obtain ⟨y, hy⟩ : ∃ y, nps[N]? = some y := ⟨_, List.getElem?_eq_getElem (by omega)⟩
                obtain ⟨hn0, hn1⟩ := hRN.out.cells hy
                have hfn0 := hRN.out.frozen (N * 2)
                have hfn1 := hRN.out.frozen (N * 2 + 1)
                have HPGS : Hid ((nps.set N ⟨ll, lA, lc, lxs⟩).map PgM.pg = laidP sureL (ls.take (j + 1))) := by
                  unfold Hid
                  have h0 := hN.out
                  unfold laidP at h0 ⊢
                  rw [List.take_add_one, HLM.out, Option.toList_some, List.foldl_append, List.map_set, h0]
                  rfl
                have HRSET := Lib.hid (hRN.out.set (.inr rfl) N ⟨ll, lA, lc, lxs⟩ (by show lxs.length ≤ 255; omega) HSLm.out)
                have HFSET : Hid (Fr (One gn) w6 ((wr.setCell ⟨gn, N * 2, none⟩ (.int .i64 ll)).setCell ⟨gn, N * 2 + 1, none⟩ (.slice lA lxs.length lc))) := (hFN.out.one (N * 2) _).one (N * 2 + 1) _
                clear hy
                go_wp2_with fail
                go_region
                all_goals go_wp2_with fail
                all_goals go_roundw
                case rel => exact ⟨j + 1, nps.set N ⟨ll, lA, lc, lxs⟩, by go_num, by omega, by rw [List.length_set]; exact hnl, HPGS.out, HRSET.out.below ((Below.refl _ _).drew), HFSET.out.drew⟩
                case measure => simp [intOf]; omega
              · obtain rfl : j = ls.length := by omega
                have hN' := hN.out
                rw [List.take_length] at hN'
                have HNX := Lib.hid hN'
                have HBx : Hid (Below wo.heap.size wo wr) := HB6.out.trans (hFN.out.toBelow HW6.out (fun k hk => by have : k = gn := hk; omega))
                have HSTx := Lib.hid (HST.out.below HBx.out)
                have HLVx := Lib.hid (HLV6.out.fr (hFN.out.mono (fun k hk => .inr hk)))
                have HRSx := Lib.hid (HRS6.out.fr hFN.out (fun e => by have := HRW.out.lt; have : gs = gn := e; omega) (fun k hk => .inr hk))
                clear hN' HRN6 HRS6 HST6 HLV6 HLV
                obtain ⟨d', s', pgs', r, hev, hwent, hac8, hac0, hcase⟩ := write_rec hI.out.inv hI.out.up hI.out.ar hI.out.cn hI.out.qu HFL.out.1 hl3 HFL.out.2
                have HEV := Lib.hid hev
                have HWENT := Lib.hid hwent
                have HACS := Lib.hid (And.intro hac8 hac0)
                have HCASE := Lib.hid hcase
                clear hev hwent hac8 hac0 hcase
                have hsl : s.life < 1000000 := by have := hI.out.li; omega
                have hsa : s.acts < 1000000 := by have := hI.out.ac; omega
                have HLNS : Hid (qs.map PgM.pg = sureL) := HQS.out
                go_wp2_with fail
                refine (twrite_at wr HSTx.out (fun j => j < wo.heap.size ∨ j = gn) (fun k hk => .inl (HAV.out k (.inl hk))) A1 c1 ls HLVx.out (by omega) (by omega) (by omega) (by have := hI.out.inv.ln; rw [← HLNS.out, List.length_map] at this; omega) hsl hsa).mono ?_
                rintro e w7 ⟨d2, s2, ps2, r2, F7, hev2, rfl, hst7, hf7, hsb7⟩
                rw [HLNS.out, HEV.out] at hev2
                obtain ⟨rfl, rfl, rfl, rfl⟩ : d' = d2 ∧ s' = s2 ∧ pgs' = ps2.map PgM.pg ∧ r = r2 := by simpa using hev2
                have HST7 := Lib.hid hst7
                have HF7 := Lib.hid (show Fr (Ows F q pv) wr w7 from hf7)
                have HSB7 := Lib.hid hsb7
                clear hev2 hst7 hf7 hsb7 hsl hsa
                have HRN7 : Hid (Rw w7 (fun j => (Ows F7 q pv j ∨ j = gs) ∨ j = gn) gn cn nps) := hRN.out.step HF7.out (fun k hk => .inl (.inl hk)) (fun h => by have := HAV.out gn (.inl h); omega) (sub_or _ (sub_or _ (ows_sub HSB7.out)))
                have HRS7 : Hid (Rw w7 (fun j => (Ows F7 q pv j ∨ j = gs) ∨ j = gn) gs c ps) := HRSx.out.step HF7.out (fun k hk => .inl (.inl hk)) HNG.out (sub_or _ (sub_or _ (ows_sub HSB7.out)))
                have HOW7 : Hid (∀ j, Ows F7 q pv j → w1.heap.size ≤ j) := fun j hj => by
                  rcases ows_sub HSB7.out j hj with h | h
                  · exact HOW.out j h
                  · have := HBx.out.size; have := hI.out.be.size; omega
                have HN7 : Hid (¬ Ows F7 q pv gs ∧ ¬ Ows F7 q pv gn) := ⟨fun h => by
                  rcases ows_sub HSB7.out _ h with h | h
                  · exact HNG.out h
                  · have := HRW.out.lt; have := HBx.out.size; omega, fun h => by
                  rcases ows_sub HSB7.out _ h with h | h
                  · have := HAV.out gn (.inl h); omega
                  · have := hRN.out.lt; omega⟩
                have HB7 : Hid (Below w1.heap.size w1 w7) := hI.out.be.trans ((HBx.out.mono hI.out.be.size).trans (HF7.out.toBelow (Nat.le_trans hI.out.be.size HBx.out.size) (fun k hk => HOW.out k hk)))
                clear HRSx HLVx HSTx hRN hFN hN
                rcases HCASE.out with ⟨rfl, rfl, hpg, hq', hinv'⟩ | ⟨rfl, hpg, hrec⟩
                · have HINV := Lib.hid hinv'
                  have HPGe := Lib.hid hpg
                  have HQe := Lib.hid hq'
                  clear hinv' hpg hq' HCASE
                  go_wp2_with fail
                  go_roundw
                  case rel =>
                    obtain ⟨u1, u2, u3⟩ := HWENT.out.up
                    have hli : s'.life = s.life := by obtain ⟨_, _, ⟨_, _, cc, _⟩ | ⟨h, _⟩⟩ := HWENT.out; exact cc; cases h
                    refine ⟨k + 1, z, q, gn, cn, s', laidP sureL ls, rfl, rfl, rfl, by go_num, by omega, by omega, hz5, ⟨⟨F7, pv, ps2, nps, ?_, HPGe.out, HOW7.out, ?_, HN7.out.2, by have := hI.out.be.size; omega, HNX.out⟩, by have := HINV.out; simpa using this, u1, u2, u3.trans hI.out.cn, HQe.out, ?_, ?_, HB7.out⟩⟩
                    · rw [hli]; exact HST7.out
                    · exact HRN7.out.av (fun i _ hi => by rcases hi with hi | hi; exact .inl (.inl hi); exact .inr hi)
                    · have := HACS.out.1; have := hI.out.ac; omega
                    · have := hI.out.li; omega
                  case measure => simp [intOf]; omega
                · have HREC := Lib.hid hrec
                  have hx1 := (HX1.out.below HB7.out HX1.out.lt).cell 1
                  simp only [List.getElem?_toArray] at hx1
                  have HBW7 : Hid (Below w.heap.size w w7) := HB1.out.trans (HB7.out.mono HB1.out.size)
                  have HFI7 := Lib.hid ((HF.out.fr (HBW7.out.toFr'')).mono' (F' := F7) (fun k hk => by have := HOW7.out k (.inl hk); have := HB1.out.size; omega))
                  obtain ⟨hmid, har, hli, hac⟩ := mid_write HWENT.out hI.out.cn HREC.out fxs
                  have HJ0 : Hid (Mid (s'.on fxs) sureL (laidP sureL ls) ((k : Int) + 1) ∧ (s'.on fxs).armed = 0 ∧ (s'.on fxs).acts ≤ 20 * k + 6 * z + 18 ∧ (s'.on fxs).life ≤ 4 * k + 4 * z + 1) := ⟨hmid, har, by have := HACS.out.1; have := hI.out.ac; omega, by have := hI.out.li; omega⟩
                  clear hmid har hli hac hrec hpg HCASE
                  have hsa : s'.acts < 1099511627776 := by have := HACS.out.1; have := hI.out.ac; omega
                  go_wp2_with fail
                  refine (on_any w7 F7 _ s' fA fc fxs HST7.out.pl hsa HFI7.out).mono ?_
                  rintro e w8 ⟨rfl, hL8⟩
                  obtain ⟨F8, h8p, h8l, h8f, h8s⟩ := hL8.shr
                  obtain ⟨hpn8, hbe8⟩ := PowN.go (B := w1.heap.size) (s' := s'.on fxs) (F := F7) (Nat.le_trans (by have := HB7.out.size; omega) (Nat.le_refl _)) (fun j hj => ⟨HOW7.out j (.inl hj), (HST7.out.fl j hj).2⟩) (HRS7.out.av (fun i _ hi => by rcases hi with (hi | hi) | hi; exact .inl (.inl (.inl hi)); exact .inl (.inr hi); exact .inr hi)) (HRN7.out.av (fun i _ hi => by rcases hi with (hi | hi) | hi; exact .inl (.inl (.inl hi)); exact .inl (.inr hi); exact .inr hi)) (fun h => HN7.out.1 (.inl h)) (fun h => HN7.out.2 (.inl h)) (by have := HRW.out.lt; omega) HGS.out (by have := hI.out.be.size; omega) HPS.out HNX.out h8p h8l h8f h8s
                  have HJ8 : Hid (PowJ w1.heap.size w1 w8 (w1.heap.size + 1) gs c gn cn (s'.on fxs) sureL (laidP sureL ls) ((k : Int) + 1) k z) := ⟨hpn8, HJ0.out.1, HJ0.out.2.1, HJ0.out.2.2.1, HJ0.out.2.2.2, HB7.out.trans hbe8⟩
                  clear hL8 h8p h8l h8f h8s hpn8 hbe8 hx1 HJ0 HFI7 HBW7 HREC HST7 HF7 HSB7 HRN7 HRS7 HOW7 HN7 HB7 HWENT HACS HEV HNX HLNS HBx
                  generalize s'.on fxs = sj at *
                  go_wp2_with fail
                  go_loopw [9] (fun zv wr => ∃ (z3 : Nat) (s3 : PSt), zv = .int .i64 z3 ∧ z3 ≤ 5 ∧ Hid (PowJ w1.heap.size w1 wr (w1.heap.size + 1) gs c gn cn s3 sureL (laidP sureL ls) ((k : Int) + 1) k z3)) (fun zv _ => 5 - (intOf zv).toNat)
                  case atStart => exact ⟨z, sj, rfl, hz5, HJ8.out⟩
                  case round =>
                    clear HJ8
                    obtain ⟨z3, s3, rfl, hz3, hJ⟩ := hrel
                    have HB3w : Hid (Below w.heap.size w wr) := HB1.out.trans (hJ.out.be.mono HB1.out.size)
                    have hx0 := (HX1.out.below hJ.out.be HX1.out.lt).cell 0
                    have hx1 := (HX1.out.below hJ.out.be HX1.out.lt).cell 1
                    simp only [List.getElem?_toArray] at hx0 hx1
                    by_cases hgo : z3 < pxs.length ∧ z3 < 5
                    · obtain ⟨hg1, hg2⟩ := hgo
                      obtain ⟨ad, hpA, hbw3, _, hc3⟩ := HP.out.2 (by omega)
                      subst hpA
                      obtain ⟨x0, hx0'⟩ : ∃ x0, pxs.getD z3 0 = x0 := ⟨_, rfl⟩
                      have hd0 := (HB3w.out.cell (p := ad.add z3) (by rw [add_block]; exact hbw3)).trans (hc3 z3 hg1)
                      rw [hx0'] at hd0
                      obtain ⟨u1, u2, u3⟩ := umod x0 3 (by omega) (by omega)
                      have HU : Hid (1 ≤ wrap64 (1 + wrap64 ((IntKind.u64.wrap x0).tmod 3)) ∧ wrap64 (1 + wrap64 ((IntKind.u64.wrap x0).tmod 3)) ≤ 3) := by
                        unfold Hid
                        rw [u3]
                        generalize (IntKind.u64.wrap x0).tmod 3 = y at *
                        unfold wrap64
                        omega
                      clear u1 u2 u3 hc3 hx0'
                      obtain ⟨F3, ps3, nps3, hp3, hfl3, hrs3, hrn3, hn31, hn32, hne3, hg31, hg32, hps3, hnps3⟩ := hJ.out.mem
                      have HP3 := Lib.hid hp3
                      have HFL3 := Lib.hid hfl3
                      have HROW3 := Lib.hid (And.intro hrs3 (And.intro hrn3 (And.intro hn31 (And.intro hn32 (And.intro hne3 (And.intro hg31 (And.intro hg32 (And.intro hps3 hnps3))))))))
                      have hlf3 := hJ.out.li
                      have hac3 := hJ.out.ac
                      clear hp3 hfl3 hrs3 hrn3 hn31 hn32 hne3 hg31 hg32 hps3 hnps3
                      go_wp2_with fail
                      revert HU
                      generalize wrap64 (1 + wrap64 ((IntKind.u64.wrap x0).tmod 3)) = N
                      intro HU
                      refine (arm_is wr F3 _ s3 N HP3.out (by have := HU.out; omega)).mono ?_
                      rintro e w9 ⟨rfl, hL9⟩
                      obtain ⟨F9, h9p, h9l, h9f, h9s⟩ := hL9.shr
                      have HP9 := Lib.hid h9p
                      have HF9 := Lib.hid (And.intro h9f (And.intro h9s h9l))
                      have hmid9 := hJ.out.mid.arm N
                      have HM9 := Lib.hid hmid9
                      clear hL9 h9p h9l h9f h9s hmid9 hd0 hx0
                      have hac9 : (s3.arm N).acts = s3.acts := rfl
                      have hli9 : (s3.arm N).life = s3.life := rfl
                      revert HP9 HM9 hac9 hli9
                      generalize s3.arm N = s9
                      intro HP9 HM9 hac9 hli9
                      go_wp2_with fail
                      refine (open_at (lo := 0) w9 HP9.out (fun j hj => ⟨Nat.zero_le _, HF9.out.2.2 j hj⟩) 0 3 5 (by omega) (by omega) (by rw [HM9.out.cn]; decide) HM9.out.up (by omega) (by omega) HM9.out.re.fu).mono ?_
                      rintro e w10 ⟨ho, f10⟩
                      have HF10 := Lib.hid f10
                      have ho2 : ∃ s10 o r v F10, openP s9 0 3 5 = (s10, o, r) ∧ e = .returned v ∧ IsPlate w10 F10 (w1.heap.size + 1) s10 ∧ (∀ j, F10 j → j < w10.heap.size) ∧ Sub w9 F9 F10 := by
                        rcases ho with ⟨s', r', F', hR, he, hpl', hfl', hsb'⟩ | ⟨s', ps', q', F', pv', qs', hR, he, hst', hqs', hsb'⟩
                        · exact ⟨_, _, _, _, F', hR, he, hpl', fun j hj => (hfl' j hj).2, hsb'⟩
                        · exact ⟨_, _, _, _, F', hR, he, hst'.pl, fun j hj => (hst'.fl j hj).2, fun j hj => hsb' j (.inl hj)⟩
                      obtain ⟨s10, o10, r10, v10, F10, hR10, rfl, hp10, hl10, hs10⟩ := ho2
                      have HP10 := Lib.hid hp10
                      have HS10 := Lib.hid (And.intro hl10 hs10)
                      have hmo := mid_open HM9.out hR10 fxs
                      have HMO := Lib.hid hmo
                      have hl10' : s10.life < 4611686018427387904 := by have := hmo.2.2.2.2.2.2.1; omega
                      clear ho f10 hp10 hl10 hs10 hR10 hmo
                      go_wp2_with fail
                      refine (off_is w10 F10 _ s10 HP10.out hl10').mono ?_
                      rintro e w11 ⟨rfl, hL11⟩
                      obtain ⟨F11, h11p, h11l, h11f, h11s⟩ := hL11.shr
                      have HP11 := Lib.hid h11p
                      have HF11 := Lib.hid (And.intro h11f (And.intro h11s h11l))
                      have HT11 : Hid (Fr F3 wr w11 ∧ Sub wr F3 F11) :=
                        ⟨(HF9.out.1.trans HF10.out HF9.out.2.1).trans h11f (HF9.out.2.1.trans HS10.out.2 HF9.out.1.size),
                         (HF9.out.2.1.trans HS10.out.2 HF9.out.1.size).trans h11s (Nat.le_trans HF9.out.1.size HF10.out.size)⟩
                      clear hL11 h11p h11l h11f h11s
                      have hbe11 := HT11.out.1.toBelow (B := w1.heap.size) hJ.out.be.size (fun j hj => (HFL3.out j hj).1)
                      have HBE11 := Lib.hid (hJ.out.be.trans hbe11)
                      have hx1 := (HX1.out.below HBE11.out HX1.out.lt).cell 1
                      simp only [List.getElem?_toArray] at hx1
                      have HFI : Hid (Ints w11 F11 fA fxs) := ((HF.out.fr ((HB1.out.trans (HBE11.out.mono HB1.out.size)).toFr'')).mono' (F' := F11) (fun j hj => by
                        have := HB1.out.size
                        rcases HT11.out.2 j hj with h | h
                        · have := (HFL3.out j h).1; omega
                        · have := hJ.out.be.size; omega))
                      have hsa : s10.off.acts < 1099511627776 := by have := HMO.out.2.2.2.2.2.2.2.2.2; omega
                      clear hbe11
                      go_wp2_with fail
                      refine (on_any w11 F11 _ s10.off fA fc fxs HP11.out hsa HFI.out).mono ?_
                      rintro e w12 ⟨rfl, hL12⟩
                      obtain ⟨F12, h12p, h12l, h12f, h12s⟩ := hL12.shr
                      obtain ⟨hpn, hbe⟩ := PowN.go (B := w1.heap.size) (s' := s10.off.on fxs) (F := F3) hJ.out.be.size HFL3.out HROW3.out.1 HROW3.out.2.1 HROW3.out.2.2.1 HROW3.out.2.2.2.1 HROW3.out.2.2.2.2.1 HROW3.out.2.2.2.2.2.1 HROW3.out.2.2.2.2.2.2.1 HROW3.out.2.2.2.2.2.2.2.1 HROW3.out.2.2.2.2.2.2.2.2 h12p h12l (HT11.out.1.trans h12f HT11.out.2) (HT11.out.2.trans h12s HT11.out.1.size)
                      have HJ12 : Hid (PowJ w1.heap.size w1 w12 (w1.heap.size + 1) gs c gn cn (s10.off.on fxs) sureL (laidP sureL ls) ((k : Int) + 1) k (z3 + 1)) := ⟨hpn, HMO.out.1, HMO.out.2.1, by have := HMO.out.2.2.2.2.2.1; omega, by have := HMO.out.2.2.2.1; omega, hJ.out.be.trans hbe⟩
                      clear hL12 h12p h12l h12f h12s hpn hbe hx1
                      go_wp2_with fail
                      go_roundw
                      case rel => exact ⟨z3 + 1, s10.off.on fxs, by go_num, by omega, HJ12.out⟩
                      case measure => simp [intOf]; omega
                    · go_upto_region 26 with fail
                      go_cut [102] (fun t102 wx => t102 = .bool false ∧ wr = wx)
                      case first =>
                        by_cases hg1 : z3 < pxs.length
                        · have hg2 : ¬ ((z3 : Int) < 5) := by omega
                          go_wp2_with fail
                          go_meet
                          exact ⟨rfl, rfl⟩
                        · go_wp2_with fail
                          go_meet
                          exact ⟨rfl, rfl⟩
                      case rest =>
                        obtain ⟨rfl, rfl⟩ := hcut
                        clear hx0 hx1
                        obtain ⟨F3, ps3, nps3, hp3, hfl3, hrs3, hrn3, hn31, hn32, hne3, hg31, hg32, hps3, hnps3⟩ := hJ.out.mem
                        have HP3 := Lib.hid hp3
                        have HFL3 := Lib.hid hfl3
                        have HROW3 := Lib.hid (And.intro hrs3 (And.intro hrn3 (And.intro hn31 (And.intro hn32 (And.intro hne3 (And.intro hg31 (And.intro hg32 (And.intro hps3 hnps3))))))))
                        have hlf3 := hJ.out.li
                        have hac3 := hJ.out.ac
                        clear hp3 hfl3 hrs3 hrn3 hn31 hn32 hne3 hg31 hg32 hps3 hnps3
                        obtain ⟨s', psL, hop, f1, f2, f3, f4, f5, f6, f7, f8, f9⟩ := mid_final hJ.out.mid hJ.out.ar
                        have HOP := Lib.hid hop
                        have HFI := Lib.hid (And.intro f1 (And.intro f2 (And.intro f3 (And.intro f4 (And.intro f5 (And.intro f6 (And.intro f7 (And.intro f8 f9))))))))
                        clear hop f1 f2 f3 f4 f5 f6 f7 f8 f9
                        go_wp2_with fail
                        refine (open_at (lo := 0) wr HP3.out (fun j hj => ⟨Nat.zero_le _, (HFL3.out j hj).2⟩) 0 3 5 (by omega) (by omega) (by rw [hJ.out.mid.cn]; decide) hJ.out.mid.up (by omega) (by omega) hJ.out.mid.re.fu).mono ?_
                        rintro e w9 ⟨ho, f9⟩
                        have HF9 := Lib.hid f9
                        clear f9
                        rcases ho with ⟨s'', r'', F', hR, _⟩ | ⟨s'', ps'', q2, F4, pv2, qs2, hR, rfl, hst, hqs2, hsub⟩
                        · rw [HOP.out] at hR
                          simp at hR
                        · rw [HOP.out] at hR
                          obtain ⟨rfl, rfl⟩ : s' = s'' ∧ psL = ps'' := by simpa using hR
                          have HST9 : Hid (StAt 0 w9 F4 q2 (w1.heap.size + 1) pv2 0 3 s'.life false s' qs2) := by rw [Hid, HFI.out.2.2.2.2.1]; exact hst
                          have HQS9 := Lib.hid hqs2
                          have HSUB := Lib.hid hsub
                          have HBE9 : Hid (Below w1.heap.size w1 w9) := hJ.out.be.trans (HF9.out.toBelow hJ.out.be.size (fun j hj => (HFL3.out j hj).1))
                          have HAV9 : Hid (Sub wr (fun j => (F3 j ∨ j = gs) ∨ j = gn) (fun j => (Ows F4 q2 pv2 j ∨ j = gs) ∨ j = gn)) := sub_or _ (sub_or _ hsub)
                          have HRS9 : Hid (Rw w9 (fun j => (Ows F4 q2 pv2 j ∨ j = gs) ∨ j = gn) gs c ps3) := HROW3.out.1.step HF9.out (fun k hk => .inl (.inl hk)) HROW3.out.2.2.1 HAV9.out
                          have HRN9 : Hid (Rw w9 (fun j => (Ows F4 q2 pv2 j ∨ j = gs) ∨ j = gn) gn cn nps3) := HROW3.out.2.1.step HF9.out (fun k hk => .inl (.inl hk)) HROW3.out.2.2.2.1 HAV9.out
                          have HN9 : Hid (¬ Ows F4 q2 pv2 gs ∧ ¬ Ows F4 q2 pv2 gn ∧ ∀ j, Ows F4 q2 pv2 j → w1.heap.size ≤ j) := ⟨fun h => by
                              rcases hsub gs h with h | h
                              · exact HROW3.out.2.2.1 h
                              · have := HROW3.out.1.lt; omega, fun h => by
                              rcases hsub gn h with h | h
                              · exact HROW3.out.2.2.2.1 h
                              · have := HROW3.out.2.1.lt; omega, fun j h => by
                              rcases hsub j h with h | h
                              · exact (HFL3.out j h).1
                              · have := hJ.out.be.size; omega⟩
                          have HNE := Lib.hid HROW3.out.2.2.2.2.1
                          have HPS3 := Lib.hid HROW3.out.2.2.2.2.2.2.2.1
                          have HNPS3 := Lib.hid HROW3.out.2.2.2.2.2.2.2.2
                          have HL3 : Hid (ps3.length = 5 ∧ nps3.length = 5) := ⟨by have := hJ.out.mid.re.ls; rw [← HPS3.out, List.length_map] at this; exact this, by have := hJ.out.mid.re.ln; rw [← HNPS3.out, List.length_map] at this; exact this⟩
                          clear hR hst hqs2 hsub
                          go_wp2_with fail
                          go_loopw [14] (fun nv wx => ∃ (n : Nat) (ps4 : List PgM), nv = .int .i64 n ∧ n ≤ 5 ∧ ps4.length = 5 ∧ Hid ((∀ j, j < n → (ps4.map PgM.pg)[j]? = psL[j]?) ∧ (∀ j, n ≤ j → (ps4.map PgM.pg)[j]? = sureL[j]?)) ∧ Hid (Rw wx (fun j => (Ows F4 q2 pv2 j ∨ j = gs) ∨ j = gn) gs c ps4 ∧ Rw wx (fun j => (Ows F4 q2 pv2 j ∨ j = gs) ∨ j = gn) gn cn nps3 ∧ StAt 0 wx F4 q2 (w1.heap.size + 1) pv2 0 3 s'.life false s' qs2 ∧ Below w1.heap.size w1 wx)) (fun nv _ => 5 - (intOf nv).toNat)
                          case atStart => exact ⟨0, ps3, rfl, by omega, HL3.out.1, ⟨fun j hj => by omega, fun j _ => by rw [HPS3.out]⟩, HRS9.out, HRN9.out, HST9.out, HBE9.out⟩
                          case round =>
                            clear HRS9 HRN9 HST9 HBE9
                            obtain ⟨wi, rfl⟩ : ∃ wi : World, wi = wr := ⟨_, rfl⟩
                            obtain ⟨n, ps4, rfl, hn5, hl4, hpg4, hm4⟩ := hrel
                            by_cases hn : n < 5
                            · obtain ⟨x, hxL, hxc⟩ := HFI.out.2.2.2.2.2.2.2.2 n hn
                              obtain ⟨y, hy⟩ : ∃ y, ps4[n]? = some y := ⟨_, List.getElem?_eq_getElem (by omega)⟩
                              obtain ⟨yn, hyn⟩ : ∃ yn, nps3[n]? = some yn := ⟨_, List.getElem?_eq_getElem (by have := HL3.out.2; omega)⟩
                              have hySure : sureL[n]? = some y.pg := by rw [← hpg4.out.2 n (Nat.le_refl _), List.getElem?_map, hy]; rfl
                              have hyNext : (laidP sureL ls)[n]? = some yn.pg := by rw [← HNPS3.out, List.getElem?_map, hyn]; rfl
                              have HXC : Hid (x = y.pg ∨ x = yn.pg) := by
                                rcases hxc with h | h
                                · left; rw [hySure] at h; exact (Option.some.inj h).symm
                                · right; rw [hyNext] at h; exact (Option.some.inj h).symm
                              have HXL := Lib.hid hxL
                              have HY := Lib.hid hy
                              have HYN := Lib.hid hyn
                              clear hxL hxc hy hyn hySure hyNext
                              obtain ⟨xl, xxs⟩ := x
                              have hr0 : tRdy false s' s'.life = 0 := by unfold tRdy; rw [if_neg]; simp [HFI.out.1]
                              have HR0 := Lib.hid hr0
                              clear hr0
                              go_wp2_with fail
                              refine (tread_ok (lo := 0) wi ⟨F4, pv2, qs2, hm4.out.2.2.1, HQS9.out⟩ HR0.out n xl xxs HXL.out (by have := HFI.out.2.2.2.2.2.2.2.1.ln; omega)).mono ?_
                              rintro e w14 ⟨⟨A8, c8, rfl, hs8⟩, b8⟩
                              have hb15 := b8.alloc b8.size (.cells #[.int .i64 xl, .slice A8 xxs.length c8] 25)
                              have HB15 := Lib.hid hb15
                              have HX15 := Lib.hid (Blk.new w14 25 #[.int .i64 xl, .slice A8 xxs.length c8])
                              have HS15 := Lib.hid (hs8.fr ((Fr.refl _ w14).alloc (.cells #[.int .i64 xl, .slice A8 xxs.length c8] 25)))
                              have HG15 : Hid (wi.heap.size ≤ w14.heap.size) := b8.size
                              clear b8 hs8 hb15
                              go_upto_region 39 with fail
                              revert HB15 HX15 HS15
                              generalize w14.alloc (.cells #[.int .i64 xl, .slice A8 xxs.length c8] 25) = W15
                              intro HB15 HX15 HS15
                              generalize w14.heap.size = g15 at *
                              have HR15 := Lib.hid (hm4.out.1.below HB15.out)
                              have HN15 := Lib.hid (hm4.out.2.1.below HB15.out)
                              have hgsl := hm4.out.1.lt
                              have HGS15 : Hid (gs < wi.heap.size) := hgsl
                              clear hgsl
                              have HYL : Hid (y.xs.length ≤ 255 ∧ Slots W15 Nope y.A y.xs) := ⟨(HR15.out.sl y (List.mem_of_getElem? HY.out)).1, (HR15.out.sl y (List.mem_of_getElem? HY.out)).2.mono (fun _ _ h => h.elim)⟩
                              have HNL : Hid (yn.xs.length ≤ 255 ∧ Slots W15 Nope yn.A yn.xs) := ⟨(HN15.out.sl yn (List.mem_of_getElem? HYN.out)).1, (HN15.out.sl yn (List.mem_of_getElem? HYN.out)).2.mono (fun _ _ h => h.elim)⟩
                              have HXLEN : Hid (xxs.length ≤ 255) := by
                                rcases HXC.out with h | h
                                · have : xxs = y.xs := congrArg Prod.snd h; rw [Hid, this]; exact HYL.out.1
                                · have : xxs = yn.xs := congrArg Prod.snd h; rw [Hid, this]; exact HNL.out.1
                              have HKB : Hid (∀ W' : World, Below W15.heap.size W15 W' → (W'.cell? ⟨g15, 0, none⟩ = some (.int .i64 xl) ∧ W'.cell? ⟨g15, 1, none⟩ = some (.slice A8 xxs.length c8) ∧ W'.cell? ⟨gs, n * 2, none⟩ = some (.int .i64 y.l) ∧ W'.cell? ⟨gs, n * 2 + 1, none⟩ = some (.slice y.A y.xs.length y.c) ∧ W'.cell? ⟨gn, n * 2, none⟩ = some (.int .i64 yn.l) ∧ W'.cell? ⟨gn, n * 2 + 1, none⟩ = some (.slice yn.A yn.xs.length yn.c))) := fun W' hW =>
                                ⟨(HX15.out.below hW HX15.out.lt).cell 0, (HX15.out.below hW HX15.out.lt).cell 1, ((HR15.out.below hW).cells HY.out).1, ((HR15.out.below hW).cells HY.out).2, ((HN15.out.below hW).cells HYN.out).1, ((HN15.out.below hW).cells HYN.out).2⟩
                              have HSA : Hid (∀ W' : World, Below W15.heap.size W15 W' → Calls Tryd.prog 17 #[.agg #[.int .i64 xl, .slice A8 xxs.length c8], .agg #[.int .i64 y.l, .slice y.A y.xs.length y.c]] W' fun e w' => e = .returned (.bool (sameP xl y.l xxs y.xs)) ∧ Below W'.heap.size W' w') := fun W' hW =>
                                same_any W' Nope xl y.l A8 y.A c8 y.c xxs y.xs ((HS15.out.fr ((Fr.refl _ _).below hW)).mono (fun _ _ h => h.elim)) (HYL.out.2.fr ((Fr.refl _ _).below hW)) (by have := HXLEN.out; omega) (by have := HYL.out.1; omega)
                              have HSB : Hid (∀ W' : World, Below W15.heap.size W15 W' → Calls Tryd.prog 17 #[.agg #[.int .i64 xl, .slice A8 xxs.length c8], .agg #[.int .i64 yn.l, .slice yn.A yn.xs.length yn.c]] W' fun e w' => e = .returned (.bool (sameP xl yn.l xxs yn.xs)) ∧ Below W'.heap.size W' w') := fun W' hW =>
                                same_any W' Nope xl yn.l A8 yn.A c8 yn.c xxs yn.xs ((HS15.out.fr ((Fr.refl _ _).below hW)).mono (fun _ _ h => h.elim)) (HNL.out.2.fr ((Fr.refl _ _).below hW)) (by have := HXLEN.out; omega) (by have := HNL.out.1; omega)
                              have HW0 : Hid (Below W15.heap.size W15 W15.drew) := (Below.refl _ _).drew
                              have HEND : Hid (∀ W' : World, Below W15.heap.size W15 W' → (Hid ((∀ j, j < n + 1 → ((ps4.set n ⟨xl, A8, c8, xxs⟩).map PgM.pg)[j]? = psL[j]?) ∧ (∀ j, n + 1 ≤ j → ((ps4.set n ⟨xl, A8, c8, xxs⟩).map PgM.pg)[j]? = sureL[j]?)) ∧ Hid (Rw ((W'.setCell ⟨gs, n * 2, none⟩ (.int .i64 xl)).setCell ⟨gs, n * 2 + 1, none⟩ (.slice A8 xxs.length c8)) (fun j => (Ows F4 q2 pv2 j ∨ j = gs) ∨ j = gn) gs c (ps4.set n ⟨xl, A8, c8, xxs⟩) ∧ Rw ((W'.setCell ⟨gs, n * 2, none⟩ (.int .i64 xl)).setCell ⟨gs, n * 2 + 1, none⟩ (.slice A8 xxs.length c8)) (fun j => (Ows F4 q2 pv2 j ∨ j = gs) ∨ j = gn) gn cn nps3 ∧ StAt 0 ((W'.setCell ⟨gs, n * 2, none⟩ (.int .i64 xl)).setCell ⟨gs, n * 2 + 1, none⟩ (.slice A8 xxs.length c8)) F4 q2 (w1.heap.size + 1) pv2 0 3 s'.life false s' qs2 ∧ Below w1.heap.size w1 ((W'.setCell ⟨gs, n * 2, none⟩ (.int .i64 xl)).setCell ⟨gs, n * 2 + 1, none⟩ (.slice A8 xxs.length c8))))) := fun W' hW => by
                                have hr := HR15.out.below hW
                                have hfs := hr.setFr n (.int .i64 xl) (.slice A8 xxs.length c8)
                                have hsl : Slots W' (fun j => (Ows F4 q2 pv2 j ∨ j = gs) ∨ j = gn) A8 xxs := (HS15.out.fr ((Fr.refl _ _).below hW)).mono (fun j _ hj => by
                                  rcases hj with (hj | rfl) | rfl
                                  · exact (hm4.out.2.2.1.own_lo j hj).2
                                  · exact HGS15.out
                                  · exact hm4.out.2.1.lt)
                                have hst' := (hm4.out.2.2.1.below HB15.out).below hW
                                have hfg : Fr (One gs) W15 _ := ((Fr.refl (One gs) _).below hW).trans hfs (Sub.refl _ _)
                                refine ⟨⟨fun j hj => ?_, fun j hj => ?_⟩, hr.set (.inl (.inr rfl)) n ⟨xl, A8, c8, xxs⟩ (by show xxs.length ≤ 255; exact HXLEN.out) hsl, (HN15.out.below hW).fr hfs (fun e => HNE.out (show gn = gs from e).symm) (fun k hk => .inl (.inr hk)), ?_, ?_⟩
                                · rw [List.map_set]
                                  by_cases e : j = n
                                  · subst e; rw [List.getElem?_set_self (by rw [List.length_map]; omega), HXL.out]; rfl
                                  · rw [List.getElem?_set_ne (by omega)]; exact hpg4.out.1 j (by omega)
                                · rw [List.map_set, List.getElem?_set_ne (by omega)]; exact hpg4.out.2 j (by omega)
                                · exact hst'.poke HN9.out.1 (hr.cells HY.out).1 (hr.cells HY.out).2
                                · exact hm4.out.2.2.2.trans (((HB15.out.mono hm4.out.2.2.2.size).trans (hW.mono (Nat.le_trans hm4.out.2.2.2.size HB15.out.size))).trans (hfs.toBelow (Nat.le_trans hm4.out.2.2.2.size (Nat.le_trans HB15.out.size hW.size)) (fun k hk => by have : k = gs := hk; rw [this]; exact HROW3.out.2.2.2.2.2.1)))
                              have HKG : Hid (∀ W' : World, Below W15.heap.size W15 W' → W'.frozen? ⟨gs, n * 2, none⟩ = false ∧ W'.frozen? ⟨gs, n * 2 + 1, none⟩ = false) := fun W' hW => ⟨(HR15.out.below hW).frozen _, (HR15.out.below hW).frozen _⟩
                              obtain ⟨yl, yA, yc, yxs⟩ := y
                              obtain ⟨ynl, ynA, ync, ynxs⟩ := yn
                              go_cut [160] (fun t160 wx => t160 = .bool false ∧ Hid (Below W15.heap.size W15 wx))
                              case first =>
                                by_cases he : (xl, xxs) = (yl, yxs)
                                · obtain ⟨rfl, rfl⟩ : xl = yl ∧ xxs = yxs := by simpa using he
                                  have HSAT : Hid (sameP xl xl xxs xxs = true) := by unfold Hid sameP; simp
                                  clear he
                                  obtain ⟨k0, k1, k2, k3, k4, k5⟩ := HKB.out _ (Below.refl _ W15)
                                  first
                                    | (go_region_with (first | (go_at_call 17; refine (HSA.out _ HW0.out).mono ?_; rw [HSAT.out]; rintro e w16 ⟨rfl, b16⟩; have HBS := Lib.hid (HW0.out.trans (b16.mono HW0.out.size)); clear b16)))
                                    | fail
                                  all_goals (go_wp2_with fail; go_meet; exact ⟨rfl, HBS.out⟩)
                                · have hyn : (xl, xxs) = (ynl, ynxs) := by
                                    rcases HXC.out with h | h
                                    · exact absurd h he
                                    · exact h
                                  obtain ⟨rfl, rfl⟩ : xl = ynl ∧ xxs = ynxs := by simpa using hyn
                                  have HSAF : Hid (sameP xl yl xxs yxs = false) := by
                                    unfold Hid sameP
                                    by_cases h1 : xl = yl
                                    · have h2 : ¬ xxs = yxs := fun h => he (by rw [h1, h])
                                      simp [h2]
                                    · simp [h1]
                                  have HSBT : Hid (sameP xl xl xxs xxs = true) := by unfold Hid sameP; simp
                                  clear he hyn
                                  obtain ⟨k0, k1, k2, k3, k4, k5⟩ := HKB.out _ (Below.refl _ W15)
                                  go_region_held3 (fun w' => w'.cell? ⟨g15, 0, none⟩ = some (.int .i64 xl) ∧ w'.cell? ⟨g15, 1, none⟩ = some (.slice A8 xxs.length c8) ∧ w'.cell? ⟨gs, n * 2, none⟩ = some (.int .i64 yl) ∧ w'.cell? ⟨gs, n * 2 + 1, none⟩ = some (.slice yA yxs.length yc) ∧ w'.cell? ⟨gn, n * 2, none⟩ = some (.int .i64 xl) ∧ w'.cell? ⟨gn, n * 2 + 1, none⟩ = some (.slice ynA xxs.length ync))
                                    (first | exact HKB.out _ HW0.out | exact HKB.out _ HBS.out | exact HKB.out _ HBT.out)
                                    (first
                                      | (go_at_call 17; (with_reducible refine (HSA.out _ HW0.out).mono ?_); rw [HSAF.out]; rintro e w16 ⟨rfl, b16⟩; have HBS := Lib.hid (HW0.out.trans (b16.mono HW0.out.size)); clear b16)
                                      | (go_at_call 17; (with_reducible refine (HSB.out _ HBS.out).mono ?_); rw [HSBT.out]; rintro e w17 ⟨rfl, b17⟩; have HBT := Lib.hid (HBS.out.trans (b17.mono HBS.out.size)); clear b17))
                                  all_goals (go_wp2_with fail; go_meet; exact ⟨rfl, HBT.out⟩)
                              case rest =>
                                obtain ⟨rfl, hbx⟩ := hcut
                                have HBS := Lib.hid hbx.out
                                clear hbx
                                obtain ⟨hz0, hz1, hz2, hz3, _⟩ := HKB.out _ HBS.out
                                obtain ⟨hzf0, hzf1⟩ := HKG.out _ HBS.out
                                go_wp2_with fail
                                go_roundw
                                case rel => exact ⟨n + 1, ps4.set n ⟨xl, A8, c8, xxs⟩, by go_num, by omega, by rw [List.length_set]; exact hl4, (HEND.out _ HBS.out).1, (HEND.out _ HBS.out).2⟩
                                case measure => simp [intOf]; omega
                            · obtain rfl : n = 5 := by omega
                              go_wp2_with fail
                              go_roundw
                              case rel =>
                                have hfin : ps4.map PgM.pg = psL := by
                                  apply List.ext_getElem?
                                  intro j
                                  by_cases hj : j < 5
                                  · exact hpg4.out.1 j hj
                                  · rw [List.getElem?_eq_none (by rw [List.length_map]; omega), List.getElem?_eq_none (by rw [HFI.out.2.2.2.2.2.2.2.1.ln]; omega)]
                                refine ⟨k + 1, z3, q2, gs, c, s', psL, rfl, rfl, rfl, by go_num, by omega, by omega, hz3, ⟨⟨F4, pv2, qs2, ps4, hm4.out.2.2.1, HQS9.out, HN9.out.2.2, ?_, HN9.out.1, HROW3.out.2.2.2.2.2.1, hfin⟩, by have := HFI.out.2.2.2.2.2.2.2.1; simpa using this, HFI.out.1, HFI.out.2.1, HFI.out.2.2.1, HFI.out.2.2.2.1, ?_, ?_, hm4.out.2.2.2⟩⟩
                                · exact hm4.out.1.av (fun i _ hi => .inl hi)
                                · have := HFI.out.2.2.2.2.2.2.1; omega
                                · have := HFI.out.2.2.2.2.1; omega
                              case measure => simp [intOf]; omega
        · go_upto_region 12 with fail
          go_cut [51] (fun t51 wx => t51 = .bool false ∧ wo = wx)
          case first =>
            by_cases hg1 : k < grps.length
            · have hg2 : ¬ ((k : Int) < 30) := by omega
              go_wp2_with fail
              go_meet
              exact ⟨rfl, rfl⟩
            · go_wp2_with fail
              go_meet
              exact ⟨rfl, rfl⟩
          case rest =>
            obtain ⟨rfl, rfl⟩ := hcut
            have hlf := hI.out.li
            have hacw := hI.out.ac
            go_wp2_with fail
            refine (off_is wo F _ s HST.out.pl (by omega)).mono ?_
            rintro e w9 ⟨rfl, hL9⟩
            obtain ⟨F9, h9p, h9l, h9f, h9s⟩ := hL9.shr
            have HP9 := Lib.hid h9p
            have HF9 := Lib.hid (And.intro h9f (And.intro h9s h9l))
            obtain ⟨hmid, har, hli, hac⟩ := mid_calm hI.out.inv hI.out.up hI.out.cn hI.out.qu
            have HMID := Lib.hid (And.intro hmid (And.intro har (And.intro hli hac)))
            have hoa : s.off.acts < 1099511627776 := by rw [PSt.off_acts]; omega
            clear hL9 h9p h9l h9f h9s hmid har hli hac
            go_wp2_with fail
            refine (on_any w9 F9 _ s.off none 0 [] HP9.out hoa (Ints.nil w9 F9 none)).mono ?_
            rintro e w10 ⟨rfl, hL10⟩
            obtain ⟨F10, h10p, h10l, h10f, h10s⟩ := hL10.shr
            have HP10 := Lib.hid h10p
            have HF10 := Lib.hid (show Fr F wo w10 ∧ Sub wo F F10 ∧ ∀ k, F10 k → k < w10.heap.size from ⟨HF9.out.1.trans h10f HF9.out.2.1, HF9.out.2.1.trans h10s HF9.out.1.size, h10l⟩)
            clear hL10 h10p h10l h10f h10s hoa
            obtain ⟨s', psL, hop, f1, f2, f3, f4, f5, f6, f7, f8, f9⟩ := mid_final HMID.out.1 HMID.out.2.1
            have hls : psL = sureL := by
              apply List.ext_getElem?
              intro j
              by_cases hj : j < 5
              · obtain ⟨x, a, b⟩ := f9 j hj
                rw [a]
                rcases b with b | b <;> exact b.symm
              · rw [List.getElem?_eq_none (by rw [f8.ln]; omega), List.getElem?_eq_none (by rw [hI.out.inv.ln]; omega)]
            subst hls
            have HOP := Lib.hid hop
            have HFI := Lib.hid (And.intro f1 f5)
            have hlj : (s.off.on []).life < 900000 := by rw [HMID.out.2.2.1]; omega
            have haj : (s.off.on []).acts < 900000 := by rw [HMID.out.2.2.2]; omega
            clear hop f1 f2 f3 f4 f5 f6 f7 f8 f9
            go_wp2_with fail
            refine (open_at (lo := 0) w10 HP10.out (fun j hj => ⟨Nat.zero_le _, HF10.out.2.2 j hj⟩) 0 3 5 (by omega) (by omega) (by rw [HMID.out.1.cn]; decide) HMID.out.1.up haj hlj HMID.out.1.re.fu).mono ?_
            rintro e w11 ⟨ho, f11⟩
            have HF11 := Lib.hid (HF10.out.1.trans f11 HF10.out.2.1)
            clear f11 hlj haj
            rcases ho with ⟨s'', r'', F', hR, _⟩ | ⟨s'', ps'', q2, F4, pv2, qs2, hR, rfl, hst, hqs2, hsub⟩
            · rw [HOP.out] at hR
              simp at hR
            · rw [HOP.out] at hR
              obtain ⟨rfl, rfl⟩ : s' = s'' ∧ psL = ps'' := by simpa using hR
              have HSTF : Hid (Store 0 w11 q2 (w1.heap.size + 1) 0 3 s'.life false s' psL) := ⟨F4, pv2, qs2, by rw [HFI.out.2]; exact hst, hqs2⟩
              have hrdy : tRdy false s' s'.life = 0 := by unfold tRdy; rw [if_neg]; simp [HFI.out.1]
              have HRDY := Lib.hid hrdy
              have HRWF : Hid (Rw w11 Nope gs c ps) := (HRW.out.fr HF11.out (fun h => HNG.out (.inl h)) (fun k hk => .inl (.inl hk))).av (fun _ _ h => h.elim)
              have HBF : Hid (Below w1.heap.size w1 w11) := hI.out.be.trans (HF11.out.toBelow hI.out.be.size (fun k hk => HOW.out k (.inl hk)))
              clear hR hst hqs2 hsub hrdy
              go_wp2_with fail
              go_loopw [17] (fun nv wx => ∃ n : Nat, nv = .int .i64 n ∧ n ≤ 5 ∧ Hid (Store 0 wx q2 (w1.heap.size + 1) 0 3 s'.life false s' psL ∧ Rw wx Nope gs c ps ∧ Below w1.heap.size w1 wx)) (fun nv _ => 5 - (intOf nv).toNat)
              case atStart => exact ⟨0, rfl, by omega, HSTF.out, HRWF.out, HBF.out⟩
              case round =>
                obtain ⟨n, rfl, hn5, hP⟩ := hrel
                by_cases hn : n < 5
                · obtain ⟨y, hy⟩ : ∃ y, ps[n]? = some y := ⟨_, List.getElem?_eq_getElem (by have := HPL5.out; omega)⟩
                  have hyS : psL[n]? = some (y.l, y.xs) := by rw [← HPS.out, List.getElem?_map, hy]; rfl
                  have HY := Lib.hid hy
                  have HYS := Lib.hid hyS
                  have hyl : y.xs.length ≤ 255 := (hP.out.2.1.sl y (List.mem_of_getElem? hy)).1
                  clear hy hyS
                  go_wp2_with fail
                  refine (tread_ok wr hP.out.1 HRDY.out n y.l y.xs HYS.out (by have := hI.out.inv.ln; omega)).mono ?_
                  rintro e w14 ⟨⟨A8, c8, rfl, hs8⟩, b8⟩
                  have hb15 := b8.alloc b8.size (.cells #[.int .i64 y.l, .slice A8 y.xs.length c8] 25)
                  have HB15 := Lib.hid hb15
                  have HX15 := Lib.hid (Blk.new w14 25 #[.int .i64 y.l, .slice A8 y.xs.length c8])
                  have HS15 := Lib.hid ((hs8.fr ((Fr.refl _ w14).alloc (.cells #[.int .i64 y.l, .slice A8 y.xs.length c8] 25))).mono (F' := Nope) (fun _ _ h => h.elim))
                  clear b8 hs8 hb15
                  go_upto_region 49 with fail
                  revert HB15 HX15 HS15
                  generalize w14.alloc (.cells #[.int .i64 y.l, .slice A8 y.xs.length c8] 25) = W15
                  intro HB15 HX15 HS15
                  have hx0 := HX15.out.cell 0
                  have hx1 := HX15.out.cell 1
                  simp only [List.getElem?_toArray] at hx0 hx1
                  obtain ⟨hy0, hy1⟩ := (hP.out.2.1.below HB15.out).cells HY.out
                  have HYSl := Lib.hid ((hP.out.2.1.below HB15.out).sl y (List.mem_of_getElem? HY.out)).2
                  obtain ⟨yl, yA, yc, yxs⟩ := y
                  go_still_tail 8, (by kernel_rfl)
                  change wpList _ _ _ _ _ W15.drew
                  have HD : Hid (Below wr.heap.size wr W15.drew ∧ Slots W15.drew Nope A8 yxs ∧ Slots W15.drew Nope yA yxs) := ⟨HB15.out.drew, HS15.out, HYSl.out⟩
                  clear HB15 HX15 HS15 HYSl hx0 hx1 hy0 hy1
                  revert HD
                  generalize W15.drew = W9
                  intro HD
                  have hyl' : yxs.length ≤ 255 := hyl
                  go_wp2_with fail
                  refine (same_any W9 Nope yl yl A8 yA c8 yc yxs yxs HD.out.2.1 HD.out.2.2 (by omega) (by omega)).mono ?_
                  rintro e w16 ⟨rfl, b16⟩
                  have HB16 := Lib.hid (HD.out.1.trans (b16.mono HD.out.1.size))
                  rw [show sameP yl yl yxs yxs = true by simp [sameP]]
                  clear b16
                  go_wp2_with fail
                  go_roundw
                  case rel => exact ⟨n + 1, by go_num, by omega, hP.out.1.below HB16.out, hP.out.2.1.below HB16.out, hP.out.2.2.trans (HB16.out.mono hP.out.2.2.size)⟩
                  case measure => simp [intOf]; omega
                · obtain rfl : n = 5 := by omega
                  go_wp2_with fail
                  go_ret
                  exact ⟨rfl, HB1.out.trans (hP.out.2.2.mono HB1.out.size)⟩

end Go.Proofs.YtbikplckehbcnaaDoor
