/- PlateKeeps: what is synced stays: the walk. -/
import Derived.Test.YtbikplckehbcnaaKeepA
import Derived.Test.YtbikplckehbcnaaArms
import Derived.Deep.RegionLaw
import Derived.RegionTactic
import Derived.Deep.DeepCutAuto
import Derived.Deep.CutBlock
set_option linter.unusedVariables false
set_option linter.unusedSimpArgs false
namespace Go.Proofs.Ytbikplckehbcnaa
open Go Go.RowKit

theorem run_mk40 (w : World) : (Instr.makeSlice 38 (.int .i64 40) (.int .i64 40)).run Try.prog w = .ok (.slice (some ⟨w.heap.size, 0, none⟩) 40 40) (w.alloc (.cells (safeC fun _ => 0) 5)) := by
  have e : safeC (fun _ => 0) = madeCells #[.int .u8 0] 40 := by
    apply Array.ext
    · simp [safeC, madeCells]
    · intro i h1 h2
      simp [safeC, madeCells, Nat.mod_one]
  rw [e]
  obtain ⟨i, hi, hz⟩ : ∃ i, Try.prog.info? 5 = some i ∧ (i.zero, i.size, i.bytes) = (some (.int .u8 0), 1, 1) := by
    refine Option.map_eq_some_iff.1 ?_
    exact (by kernel_rfl : (Try.prog.info? 5).map (fun i => (i.zero, i.size, i.bytes)) = some (some (.int .u8 0), 1, 1))
  simp only [Prod.mk.injEq] at hz
  have := run_make (P := Try.prog) w 38 5 i (.int .u8 0) Try.underlying38 hi hz.1 .i64 .i64 40 40 (by omega) (by omega) (by rw [hz.2.2]; omega) (by omega)
  rw [hz.2.1] at this
  exact this
theorem run_mkrows (w : World) : (Instr.makeSlice 39 (.int .i64 40) (.int .i64 40)).run Try.prog w = .ok (.slice (some ⟨w.heap.size, 0, none⟩) 40 40) (w.alloc (.cells (latC fun _ => .slice none 0 0) 38)) := by
  have e : (latC fun _ => .slice none 0 0) = madeCells #[.slice none 0 0] 40 := by
    apply Array.ext
    · simp [latC, madeCells]
    · intro i h1 h2
      simp [latC, madeCells, Nat.mod_one]
  rw [e]
  obtain ⟨i, hi, hz⟩ : ∃ i, Try.prog.info? 38 = some i ∧ (i.zero, i.size, i.bytes) = (some (.slice none 0 0), 1, 24) := by
    refine Option.map_eq_some_iff.1 ?_
    exact (by kernel_rfl : (Try.prog.info? 38).map (fun i => (i.zero, i.size, i.bytes)) = some (some (.slice none 0 0), 1, 24))
  simp only [Prod.mk.injEq] at hz
  have := run_make (P := Try.prog) w 39 38 i (.slice none 0 0) Try.underlying39 hi hz.1 .i64 .i64 40 40 (by omega) (by omega) (by rw [hz.2.2]; omega) (by omega)
  rw [hz.2.1] at this
  exact this

theorem byte_info : ((Try.prog.info? 5).map fun i => (i.zero, i.size, i.bytes)) = some (some (.int .u8 0), 1, 1) := by kernel_rfl

/-- append(row, b), as a step of a region that draws. -/
theorem step_app8 {ops : Array Oper} {o : Oper} {a : Act} {W : World} {K : Act → World → Prop} {Q : Exit → Act → World → Prop} {E : Prop} (hgd : o.guard = none) (s x : Operand)
    (ho : o.op = .call { callee := .builtin .append, args := #[s, x], argTypes := #[38, 38] })
    (lo : Nat) (v : Value) (l : List Int) (b : Int) (hs : a.eval s = v) (hown : W.ownsRow lo 5 1 v l.length (num8 l)) (ad : Addr) (hx : a.eval x = .slice (some ad) 1 1) (hc : W.cell? ad = some (.int .u8 b)) (hl : l.length < 1099511627776) (hlo : lo ≤ W.heap.size)
    (h : ∀ (g c' : Nat) (w' : World), w'.ownsRow lo 5 1 (.slice (some ⟨g, 0, none⟩) (l.length + 1) c') (l ++ [b]).length (num8 (l ++ [b])) → W.grownBy w' v.ownBlock → (some g = v.ownBlock ∨ some g = some W.heap.size) → K (a.put o.dst (.slice (some ⟨g, 0, none⟩) (l.length + 1) c')) w') :
    if Region.wanted o (yielded ops a.tmps) = true then Oper.wp Try.prog o a W K Q else E := by
  rw [if_pos (by simp [Region.wanted, hgd])]
  obtain ⟨i0, hi, hz⟩ := Option.map_eq_some_iff.1 byte_info
  simp only [Prod.mk.injEq] at hz
  obtain ⟨v', w', hr, h2, h3, _, h5⟩ := run_append_own_at (P := Try.prog) W lo 38 o.type 5 i0 (.int .u8 0) 1 1 Try.underlying38 hi hz.1 hz.2.1 hz.2.2 rfl (by omega) v l.length (num8 l) hown ad 1 1 [.int .u8 b] rfl
    (fun j u hu => by
      match j, hu with
      | 0, hu => simp at hu; subst hu; rw [show ad.add 0 = ad by simp [Addr.add]]; exact hc) (by intro u hu; simp at hu; subst hu; rfl) (by simp only [maxLen]; omega) (by omega) hlo
  obtain ⟨g, c', hv', _⟩ := h2.form (by omega)
  subst hv'
  unfold Oper.wp execOp
  simp only [ho, resolve, invoke, builtin, Sem.run_bind, Sem.run_pure, Result.andThen_ok, List.map_toArray, List.map_cons, List.map_nil, hs, hx, hr]
  exact h g c' w' (by simpa [num8] using h2) h3 h5

/-- The list of rows, behind the append. -/
theorem keep_gl {lo : Nat} {w w1 : World} {F : Nat → Prop} {V : Nat → Value} {p gs gl : Nat} {s : PSt} {S : Nat → Int} {L : Nat → List Int} (h : KeepAt lo w F V p gs gl s S L) {n : Nat} (hn : n < 40) {o : Obj} (hg : (w.alloc o).drew.grownBy w1 (V n).ownBlock) :
    w1.cell? ⟨gl, n, none⟩ = some (V n) ∧ w1.frozen? ⟨gl, n, none⟩ = false := by
  have hb : Blk w1 gl 38 (latC V) := ((h.lt.alloc o).drew).grown hg (fun e => h.dgl n hn e.symm)
  exact ⟨(hb.cell n).trans (latC_get V n hn), hb.frozen n⟩

/-- What is safe when the first j sectors have been gone through. -/
def kPart (S : Nat → Int) (L : Nat → List Int) (j : Nat) : Nat → Int := fun m => if m < j then kSafe S L m else S m
theorem kPart_zero (S : Nat → Int) (L : Nat → List Int) : kPart S L 0 = S := by funext m; simp [kPart]
theorem kPart_nil (S : Nat → Int) (L : Nat → List Int) (j : Nat) (h : L j = []) : kPart S L (j + 1) = kPart S L j := by
  funext m
  unfold kPart
  by_cases e : m = j
  · subst e
    rw [if_pos (by omega), if_neg (by omega)]
    simp [kSafe, h]
  · by_cases e2 : m < j
    · rw [if_pos (by omega), if_pos e2]
    · rw [if_neg (by omega), if_neg e2]
theorem kPart_snoc (S : Nat → Int) (L : Nat → List Int) (j : Nat) (l : List Int) (b : Int) (h : L j = l ++ [b]) : kPart S L (j + 1) = fun m => if m = j then b else kPart S L j m := by
  funext m
  unfold kPart
  by_cases e : m = j
  · subst e
    rw [if_pos (by omega), if_pos rfl]
    simp [kSafe, h, List.getLastD_eq_getLast?]
  · rw [if_neg e]
    by_cases e2 : m < j
    · rw [if_pos (by omega), if_pos e2]
    · rw [if_neg (by omega), if_neg e2]
theorem KInv.part {s : PSt} {S : Nat → Int} {L : Nat → List Int} {L' : Nat → List Int} (h : KInv s (kSafe S L) L') : KInv s (kPart S L 40) L' :=
  ⟨h.cnt, fun k hk => by have := h.sec k hk; rwa [show kPart S L 40 k = kSafe S L k by unfold kPart; rw [if_pos hk]], h.qin, h.ext, h.lif, h.lif1⟩

theorem kAdd_len {L : Nat → List Int} {k n : Nat} {b : Int} (h : ∀ j, j < 40 → (L j).length ≤ k) : ∀ j, j < 40 → (kAdd L n b j).length ≤ k + 1 := by
  intro j hj
  have := h j hj
  unfold kAdd
  split
  · simp; omega
  · omega
theorem keep_app {lo : Nat} {W w w5 : World} {F : Nat → Prop} {V : Nat → Value} {p gs gl g c : Nat} {s : PSt} {S : Nat → Int} {L : Nat → List Int} (hlt : lo ≤ w.heap.size) (h : KeepAt lo w F V p gs gl s S L) {n : Nat} (hn : n < 40) {b : Int}
    (ho : w5.ownsRow lo 5 1 (.slice (some ⟨g, 0, none⟩) ((L n).length + 1) c) (L n ++ [b]).length (num8 (L n ++ [b]))) (hg : (w.alloc (.cells #[.int .u8 b] 5)).drew.grownBy w5 (V n).ownBlock)
    (hat : some g = (V n).ownBlock ∨ some g = some (w.alloc (.cells #[.int .u8 b] 5)).drew.heap.size) (hB : Below W.heap.size W w) (hW : W.heap.size ≤ lo) :
    Keep lo (w5.setCell ⟨gl, n, none⟩ (.slice (some ⟨g, 0, none⟩) ((L n).length + 1) c)) p gs gl s S (kAdd L n b) ∧ Below W.heap.size W (w5.setCell ⟨gl, n, none⟩ (.slice (some ⟨g, 0, none⟩) ((L n).length + 1) c)) := by
  have hb : Below w.heap.size w (w.alloc (.cells #[.int .u8 b] 5)).drew := ((Below.refl _ w).alloc (Nat.le_refl _) _).drew
  have := h.appended hb hn ho hg hat
  exact ⟨this.1, hB.trans (this.2.mono hW)⟩

theorem off_write {s : PSt} (h : s.down = true) (n : Int) (t : ByteArray) : s.write n t = (s, 10) := by
  have e : s.rdy n = 10 := by unfold PSt.rdy; rw [if_pos h]
  unfold PSt.write
  rw [e]
  rfl
theorem off_sync {s : PSt} (h : s.down = true) : s.sync = (s, 10) := by
  have e : s.rdy 0 = 10 := by unfold PSt.rdy; rw [if_pos h]
  unfold PSt.sync
  rw [e]
  rfl
theorem _root_.Go.RowKit.Below.toFr {B : Nat} {a b : World} (h : Below B a b) : Fr (fun k => B ≤ k) a b := ⟨h.os, h.tape, h.output, h.size, fun k _ hn => h.block k (by omega)⟩
theorem Ints.mono {w : World} {F F' : Nat → Prop} {A : Option Addr} {xs : List Int} (h : Ints w F A xs) (hF : ∀ k, F' k → F k) : Ints w F' A xs :=
  ⟨h.1, fun hn => by obtain ⟨ad, e, hb, hn, hc⟩ := h.2 hn; exact ⟨ad, e, hb, fun hf => hn (hF _ hf), hc⟩⟩

set_option maxRecDepth 100000 in
set_option maxHeartbeats 4000000 in
theorem keeps_any (w : World) (A : Option Addr) (c : Nat) (xs : List (Int × Int)) (hxs : Writes w A xs) (w0a w1a : Int) (A2 : Option Addr) (c2 : Nat) (fs : List Int) (hfs : Ints w (fun k => w.heap.size ≤ k) A2 fs) :
    Calls Try.prog 4 #[.slice A xs.length c, .agg #[.int .i64 w0a, .int .i64 w1a], .slice A2 fs.length c2] w fun e w' => e = .returned (.bool true) ∧ Below w.heap.size w w' := by
  obtain ⟨u1, u2, u3⟩ := umod w0a 61 (by omega) (by omega)
  obtain ⟨t1, t2, t3⟩ := umod w1a 80 (by omega) (by omega)
  have hr : Hid (wrap64 ((IntKind.u64.wrap w1a).tmod 80) < 80) := by unfold Hid; rw [t3]; exact t2
  clear u1 u2 u3 t1 t2 t3
  have HX := Lib.hid hxs
  have HFS := Lib.hid hfs
  have hl := hxs.1
  obtain ⟨b, off, hA⟩ : ∃ b off, xs.length = 0 ∨ A = some ⟨b, off, none⟩ := by
    rcases Nat.eq_zero_or_pos xs.length with hz | hz
    · exact ⟨0, 0, .inl hz⟩
    · obtain ⟨b, off, e, _⟩ := hxs.2 hz
      exact ⟨b, off, .inr e⟩
  clear hxs hfs
  have hbox := Lib.hid (Blk.new w 36 #[.int .i64 w0a, .int .i64 w1a])
  have hmk := run_mk40
  have hmk2 := run_mkrows
  go_enter Try.func4, Try.ntmps4
  go_wp2_with fail
  refine (awake_any _).mono ?_
  rintro e w0 ⟨rfl, b0⟩
  go_wp2_with fail
  refine (new_to _ 40 _ rfl).mono ?_
  rintro e w1 ⟨rfl, h1, b1⟩
  have b01 := b0.trans (b1.mono (by have := b0.size; exact this))
  have hbx := (Blk.below hbox.out b01 hbox.out.lt)
  have hb0 := hbx.cell 0
  have hb1 := hbx.cell 1
  simp only [List.getElem?_toArray] at hb0 hb1
  clear hbx
  go_wp2_with fail
  revert hr
  generalize wrap64 ((IntKind.u64.wrap w0a).tmod 61) = sy
  generalize wrap64 ((IntKind.u64.wrap w1a).tmod 80) = ar
  intro hr
  refine (arm_to _ _ _ _ _ ar rfl h1 (by have := hr.out; omega)).mono ?_
  rintro e w2 ⟨rfl, h2, b2⟩
  have hk0 : KInv ((PSt.fresh 40).arm ar) (fun _ => 0) (fun _ => []) := KInv.start (by simp [PSt.fresh, PSt.arm]; decide) (fun _ => rfl) rfl rfl
  have ha0 : ((PSt.fresh 40).arm ar).acts = 0 := rfl
  generalize (PSt.fresh 40).arm ar = s2 at *
  have HK0 := Lib.hid hk0
  have HA0 := Lib.hid ha0
  have hB2 := Lib.hid (((Below.refl w.heap.size w).alloc (Nat.le_refl _) _).trans ((b01.trans (b2.mono (by have := b0.size; simp at this ⊢; omega))).mono (by simp)))
  clear h1 hk0 ha0 hb0 hb1 hr b1 b2 b01
  go_upto_block 0 with fail
  go_cut [10] (fun lat wx => ∃ (gl : Nat) (s : PSt) (S : Nat → Int) (L : Nat → List Int), lat = .slice (some ⟨gl, 0, none⟩) 40 40 ∧ KInv s S L ∧ s.acts ≤ 200 ∧ (∀ j, j < 40 → (L j).length ≤ 60) ∧
      Keep w0.heap.size wx (w0.heap.size + 1) w2.heap.size gl s S L ∧ Below w.heap.size w wx)
  case first =>
    go_wp2_with fail
    go_loopw [10, 11] (fun lat iv wr => ∃ (gl k : Nat) (s : PSt) (S : Nat → Int) (L : Nat → List Int), lat = .slice (some ⟨gl, 0, none⟩) 40 40 ∧ iv = .int .i64 k ∧ k ≤ xs.length ∧ k ≤ 60 ∧ KInv s S L ∧ s.acts ≤ 2 * k ∧ (∀ j, j < 40 → (L j).length ≤ k) ∧
        Keep w0.heap.size wr (w0.heap.size + 1) w2.heap.size gl s S L ∧ Below w.heap.size w wr) (fun _ iv _ => xs.length - (intOf iv).toNat)
    case atStart =>
      refine ⟨w2.heap.size + 1, 0, s2, _, _, rfl, rfl, by omega, by omega, HK0.out, by rw [HA0.out]; omega, fun j hj => by simp, ?_, (hB2.out.alloc hB2.out.size _).alloc (by have := hB2.out.size; simp; omega) _⟩
      have hsz : (w2.alloc (.cells (safeC fun _ => 0) 5)).heap.size = w2.heap.size + 1 := by simp
      have hbn := Blk.new (w2.alloc (.cells (safeC fun _ => 0) 5)) 38 (latC fun _ => .slice none 0 0)
      rw [hsz] at hbn
      exact Keep.start h2.lt h2 (((Below.refl _ w2).alloc (Nat.le_refl _) _).alloc (by simp) _) (w2.heap.size + 1) ⟨Nat.le_refl _, by omega⟩ ((Blk.new w2 _ _).alloc _) hbn
    case round =>
      obtain ⟨gl, k, s, S, L, rfl, rfl, hk1, hk2, hI, ha, hL, hK, hB⟩ := hrel
      have HI := Lib.hid hI
      have HL := Lib.hid hL
      clear hI hL h2 hmk
      by_cases hlt : k < xs.length
      · by_cases h60 : k < 60
        · rcases hA with hz | rfl
          · omega
          obtain ⟨x, hx⟩ : ∃ x, xs[k]? = some x := ⟨_, List.getElem?_eq_getElem hlt⟩
          obtain ⟨b', off', e', hbw, hc⟩ := HX.out.2 (by omega)
          obtain ⟨rfl, rfl⟩ : b = b' ∧ off = off' := by injection e' with e1; injection e1 with e1 e2; exact ⟨e1, e2⟩
          obtain ⟨hc1, hc2⟩ := hc k x hx
          have hd1 : wr.cell? ⟨b, off + k * 2, none⟩ = some (.int .i64 x.1) := (hB.cell (p := ⟨b, off + k * 2, none⟩) (by simpa using Nat.lt_of_lt_of_le hbw (by simp))).trans hc1
          have hd2 : wr.cell? ⟨b, off + k * 2 + 1, none⟩ = some (.int .u8 x.2) := (hB.cell (p := ⟨b, off + k * 2 + 1, none⟩) (by simpa using Nat.lt_of_lt_of_le hbw (by simp))).trans hc2
          have HC2 := Lib.hid hc2
          clear hc1 hc2 hc e' hx
          obtain ⟨v1, v2, v3⟩ := umod x.1 40 (by omega) (by omega)
          have hv : Hid (0 ≤ wrap64 ((IntKind.u64.wrap x.1).tmod 40) ∧ wrap64 ((IntKind.u64.wrap x.1).tmod 40) < 40) := by rw [v3]; exact ⟨v1, v2⟩
          clear v1 v2 v3
          go_wp2_with fail
          revert hv
          generalize wrap64 ((IntKind.u64.wrap x.1).tmod 40) = q
          intro hv
          obtain ⟨q0, q1⟩ := hv.out
          clear hv
          obtain ⟨n, rfl⟩ := Int.eq_ofNat_of_zero_le q0
          refine (hK.filled x.2).mono ?_
          rintro e w3 ⟨rfl, hK3, b3⟩
          clear hd1 hd2 hK
          obtain ⟨s4, r, hev, hI4, ha4, hr4⟩ := HI.out.write n x.2 (by omega)
          have HI4 := Lib.hid hI4
          have HR4 := Lib.hid hr4
          clear hI4 hr4
          go_wp2_with fail
          refine (hK3.write _ _ (by have := HI.out.lif1; omega) (by omega) (by rw [fillS_size]; omega) r hev).mono ?_
          rintro e w4 ⟨rfl, hK4, b4⟩
          clear hK3 hev
          have hB4 : Below w.heap.size w w4 := hB.trans ((b3.trans b4).mono (by have := b0.size; simp at this; omega))
          have hd2 : w4.cell? ⟨b, off + k * 2 + 1, none⟩ = some (.int .u8 x.2) := (hB4.cell (p := ⟨b, off + k * 2 + 1, none⟩) hbw).trans HC2.out
          have HK4 := Lib.hid hK4
          obtain ⟨F, V, hKA⟩ := hK4
          have hg1 := (hKA.lt.cell n).trans (latC_get V n (by omega))
          have hg2 := ((hKA.lt.alloc (.cells #[.int .u8 x.2] 5)).cell n).trans (latC_get V n (by omega))
          have hrow := hKA.ow n (by omega)
          have HROW := Lib.hid hrow
          have hbnd : (L n).length < 1099511627776 := by have := HL.out n (by omega); omega
          have hlo4 := HK4.out.lt
          clear hrow
          go_upto_region 13 with fail
          go_cut [13] (fun r13 wx => r13 = .int .i64 r ∧ Keep w0.heap.size wx (w0.heap.size + 1) w2.heap.size gl s4 S (kAdd L n x.2) ∧ Below w.heap.size w wx)
          case first =>
            go_region_law (refine step_app8 (W := (w4.alloc (.cells #[.int .u8 x.2] 5)).drew) rfl _ _ rfl w0.heap.size (V n) (L n) x.2 rfl ((HROW.out.alloc _).drew) ⟨w4.heap.size, 0, none⟩ rfl ((Blk.new w4 5 #[.int .u8 x.2]).drew.cell 0) hbnd (by simp; omega) ?_; intro g5 c5 w5 hown5 hg5 hat5; have HO5 := Lib.hid hown5; have HG5 := Lib.hid hg5; have HAT5 := Lib.hid hat5; clear hown5 hg5 hat5; have hg51 := Lib.hid (keep_gl hKA (by omega) HG5.out); have hg52 := hg51.out.1; have hg53 := hg51.out.2)
            all_goals (go_wp2_with fail; go_meet)
            all_goals (refine ⟨rfl, keep_app HK4.out.lt hKA (by omega) HO5.out HG5.out HAT5.out hB4 (by have := b0.size; simp at this; omega)⟩)
          case rest =>
            obtain ⟨rfl, hK5, hB5⟩ := hcut
            clear HROW hbnd hlo4 hKA hd2 HC2 b3 b4 hg1 hg2 HK4 hB4
            rcases HR4.out with ⟨rfl, hdn⟩ | ⟨rfl, hdn⟩
            · have HD := Lib.hid hdn
              clear hdn
              by_cases hsy : (k : Int) = sy
              · have e1 : ((k : Int) == sy) = true := by rw [beq_iff_eq]; exact hsy
                clear hsy
                obtain ⟨s6, r6, hev6, ha6, hr6⟩ := HI4.out.sync
                have HR6 := Lib.hid hr6
                clear hr6
                go_wp2_with fail
                refine (hK5.sync (by have := HI4.out.lif1; omega) (by omega) r6 hev6).mono ?_
                rintro e w6 ⟨rfl, hK6, b6⟩
                clear hK5 hev6
                have hB6 : Below w.heap.size w w6 := hB5.trans (b6.mono (by have := b0.size; simp at this; omega))
                rcases HR6.out with ⟨rfl, hI6⟩ | ⟨rfl, hI6⟩
                · have HI6 := Lib.hid hI6
                  clear hI6
                  go_wp2_with fail
                  go_loopw [14] (fun jv wx => ∃ j : Nat, jv = .int .i64 j ∧ j ≤ 40 ∧ Keep w0.heap.size wx (w0.heap.size + 1) w2.heap.size gl s6 (kPart S (kAdd L n x.2) j) (kAdd L n x.2) ∧ Below w.heap.size w wx) (fun jv _ => 40 - (intOf jv).toNat)
                  case atStart => exact ⟨0, rfl, by omega, by rw [kPart_zero]; exact hK6, hB6⟩
                  case round =>
                    obtain ⟨j, rfl, hj, hKj, hBj⟩ := hrel
                    by_cases hj40 : j < 40
                    · have HKj := Lib.hid hKj
                      obtain ⟨F, V, hKA⟩ := hKj
                      have hrow := hKA.ow j hj40
                      by_cases hnil : kAdd L n x.2 j = []
                      · obtain ⟨Av, cv, hVn⟩ := own_slice hrow
                        rw [hnil, List.length_nil] at hVn
                        have hg1 := (hKA.lt.cell j).trans (latC_get V j hj40)
                        rw [hVn] at hg1
                        have HN := Lib.hid hnil
                        clear hVn hrow hKA hnil
                        go_wp2_with fail
                        go_roundw
                        case rel => exact ⟨j + 1, by go_num, by omega, by rw [kPart_nil _ _ _ HN.out]; exact HKj.out, hBj⟩
                        case measure => simp [intOf]; omega
                      · obtain ⟨l, bb, hlb⟩ : ∃ l bb, kAdd L n x.2 j = l ++ [bb] := ⟨_, _, (List.dropLast_concat_getLast hnil).symm⟩
                        rw [hlb] at hrow
                        obtain ⟨g, cv, hVn, _⟩ := hrow.form (by simp)
                        rw [List.length_append, List.length_singleton] at hVn
                        have hg1 := (hKA.lt.cell j).trans (latC_get V j hj40)
                        rw [hVn] at hg1 hrow
                        have hc := hrow.cells (g := g) rfl l.length (.int .u8 bb) (by simp [num8])
                        rw [Addr.add_lit, Nat.zero_add] at hc
                        have hs1 := (hKA.sf.cell j).trans (safeC_get _ j hj40)
                        have hs2 := hKA.sf.frozen j
                        have hll : l.length < 1000 := by have := kAdd_len (n := n) (b := x.2) HL.out j hj40; rw [hlb] at this; simp at this; omega
                        have HN := Lib.hid hlb
                        have HKA := Lib.hid hKA
                        clear hVn hrow hKA hlb hnil
                        go_wp2_with fail
                        go_region
                        all_goals go_wp2_with fail
                        all_goals go_roundw
                        case rel =>
                          refine ⟨j + 1, by go_num, by omega, ?_, (hBj.setCell (p := ⟨w2.heap.size, j, none⟩) hB2.out.size _).drew⟩
                          rw [kPart_snoc _ _ _ _ _ HN.out]
                          exact Keep.below ⟨F, V, HKA.out.set_safe j bb⟩ ((Below.refl _ _).drew)
                        case measure => simp [intOf]; omega
                    · obtain rfl : j = 40 := by omega
                      go_wp2_with fail
                      go_roundw
                      case rel => exact ⟨wr.heap.size, k + 1, s6, _, _, rfl, by go_num, by omega, by omega, HI6.out.part, by omega, fun j hj => by simp, hKj.anew ((Below.refl _ _).alloc (Nat.le_refl _) _) _ (Nat.le_refl _) (Blk.new _ _ _), hBj.alloc hBj.size _⟩
                      case measure => simp [intOf]; omega
                · have HI6 := Lib.hid hI6
                  clear hI6
                  go_wp2_with fail
                  go_roundw
                  case rel => exact ⟨gl, k + 1, s6, S, kAdd L n x.2, rfl, by go_num, by omega, by omega, HI6.out, by omega, kAdd_len HL.out, hK6, hB6⟩
                  case measure => simp [intOf]; omega
              · have e1 : ((k : Int) == sy) = false := by rw [beq_eq_false_iff_ne]; exact hsy
                clear hsy
                go_wp2_with fail
                go_roundw
                case rel => exact ⟨gl, k + 1, s4, S, kAdd L n x.2, rfl, by go_num, by omega, by omega, HI4.out, by omega, kAdd_len HL.out, hK5, hB5⟩
                case measure => simp [intOf]; omega
            · clear hdn
              go_wp2_with fail
              go_meet
              exact ⟨gl, s4, S, kAdd L n x.2, rfl, HI4.out, by omega, fun j hj => Nat.le_trans (kAdd_len HL.out j hj) (by omega), hK5, hB5⟩
        · have h61 : ¬ ((k : Int) < 60) := by omega
          go_wp2_with fail
          go_meet
          exact ⟨gl, s, S, L, rfl, HI.out, by omega, fun j hj => Nat.le_trans (HL.out j hj) hk2, hK, hB⟩
      · go_wp2_with fail
        go_meet
        exact ⟨gl, s, S, L, rfl, HI.out, by omega, fun j hj => Nat.le_trans (HL.out j hj) hk2, hK, hB⟩
  case rest =>
    obtain ⟨gl, s, S, L, rfl, hI, ha, hL, hK, hB⟩ := hcut
    have hoff := hI.off
    have HI := Lib.hid hoff
    have HI0 := Lib.hid hI
    have HL := Lib.hid hL
    clear hI hoff hL hmk hmk2 h2 HK0 HA0
    have hlf : s.life < 4611686018427387904 := by have := HI0.out.lif1; omega
    have hac : s.off.acts ≤ 200 := by rw [PSt.off_acts]; exact ha
    clear ha
    go_wp2_with fail
    refine (hK.off hlf).mono ?_
    rintro e w3 ⟨rfl, hK3, b3⟩
    clear hK hlf
    generalize s.off = so at *
    go_wp2_with fail
    refine (hK3.filled 1).mono ?_
    rintro e w4 ⟨rfl, hK4, b4⟩
    clear hK3
    have hw1 := off_write HI.out.2 0 (fillS 1)
    go_wp2_with fail
    refine (hK4.write 0 (fillS 1) (by have := HI.out.1.lif1; omega) (by omega) (by rw [fillS_size]; omega) 10 hw1).mono ?_
    rintro e w5 ⟨rfl, hK5, b5⟩
    clear hK4 hw1
    have hw2 := off_sync HI.out.2
    go_wp2_with fail
    refine (hK5.sync (by have := HI.out.1.lif1; omega) (by omega) 10 hw2).mono ?_
    rintro e w6 ⟨rfl, hK6, b6⟩
    clear hK5 hw2
    have hB6 : Below w.heap.size w w6 := hB.trans ((b3.trans (b4.trans (b5.trans b6))).mono (by have := b0.size; simp at this; omega))
    clear b3 b4 b5 b6 hB
    have hfs : Ints w6 (fun k => w0.heap.size ≤ k) A2 fs := (HFS.out.fr (hB6.toFr)).mono (fun k hk => by have := b0.size; simp at this; omega)
    go_wp2_with fail
    refine (hK6.on A2 c2 fs (by omega) hfs).mono ?_
    rintro e w7 ⟨rfl, hK7, b7⟩
    obtain ⟨hq7, hn7, hrd⟩ := HI.out.1.on fs HI.out.2
    have HRD := Lib.hid hrd
    have HQ7 := Lib.hid hq7
    have ha7 : (so.on fs).acts ≤ 200 := by rw [hn7]; exact hac
    clear hK6 hfs hrd hq7 hn7 hac
    generalize so.on fs = sn at *
    have hB7 : Below w.heap.size w w7 := hB6.trans (b7.mono (by have := b0.size; simp at this; omega))
    clear hB6 b7
    go_wp2_with fail
    go_loopw [15] (fun kv wr => ∃ k : Nat, kv = .int .i64 k ∧ k ≤ 40 ∧ Keep w0.heap.size wr (w0.heap.size + 1) w2.heap.size gl sn S L ∧ Below w.heap.size w wr) (fun kv _ => 40 - (intOf kv).toNat)
    case atStart => exact ⟨0, rfl, by omega, hK7, hB7⟩
    case round =>
      obtain ⟨k, rfl, hk, hKk, hBk⟩ := hrel
      clear hK7 hB7
      by_cases hk40 : k < 40
      · obtain ⟨t, er, hev, hcase⟩ := HRD.out k hk40
        have HCA := Lib.hid hcase
        clear hcase
        go_wp2_with fail
        refine (hKk.read k t er hev (by omega)).mono ?_
        rintro e w8 ⟨rfl, hK8, b8⟩
        have hB8 : Below w.heap.size w w8 := hBk.trans (b8.mono (by have := b0.size; simp at this; omega))
        clear hKk hev hBk b8
        have her : er = 0 ∨ er = 20 := by rcases HCA.out with h | h | h <;> simp [h.1]
        have HK8 := Lib.hid hK8
        obtain ⟨F, V, hKA⟩ := hK8
        have hs1 := (hKA.sf.cell k).trans (safeC_get S k hk40)
        clear hKA
        go_upto_region 30 with fail
        go_cut [18] (fun b18 wx => b18 = .bool (isA t er (S k) []) ∧ Keep w0.heap.size wx (w0.heap.size + 1) w2.heap.size gl sn S L ∧ Below w.heap.size w wx)
        case first =>
          rcases her with rfl | rfl
          · go_wp2_with fail
            refine (HK8.out.filled (S k)).mono ?_
            rintro e w9 ⟨rfl, hK9, b9⟩
            have hB9 : Below w.heap.size w w9 := hB8.trans (b9.mono (by have := b0.size; simp at this; omega))
            clear hs1 hB8 b9 HK8
            have HN := Lib.hid (isA_nil t 0 (S k))
            cases hts : (t.toList == (fillS (S k)).toList) with
            | true =>
              rw [hts] at HN
              go_wp2_with fail
              go_meet
              exact ⟨by rw [HN.out]; rfl, hK9, hB9⟩
            | false =>
              rw [hts] at HN
              go_wp2_with fail
              go_meet
              exact ⟨by rw [HN.out]; rfl, hK9, hB9⟩
          · go_wp2_with fail
            go_meet
            exact ⟨by rw [isA_nil]; rfl, HK8.out, hB8⟩
        case rest =>
          obtain ⟨rfl, hK9, hB9⟩ := hcut
          clear hs1 hB8 HK8
          go_wp2_with fail
          go_loopw [18, 19] (fun bv iv wr => ∃ i : Nat, iv = .int .i64 i ∧ i ≤ (L k).length ∧ bv = .bool (isA t er (S k) ((L k).take i)) ∧ Keep w0.heap.size wr (w0.heap.size + 1) w2.heap.size gl sn S L ∧ Below w.heap.size w wr) (fun _ iv _ => (L k).length - (intOf iv).toNat)
          case atStart => exact ⟨0, rfl, by omega, by rw [List.take_zero], hK9, hB9⟩
          case round =>
            obtain ⟨i, rfl, hi, rfl, hKi, hBi⟩ := hrel
            clear hK9 hB9
            have HKi := Lib.hid hKi
            obtain ⟨F, V, hKA⟩ := hKi
            have hrow := hKA.ow k hk40
            have hg1 := (hKA.lt.cell k).trans (latC_get V k hk40)
            have hlk := HL.out k hk40
            by_cases hil : i < (L k).length
            · obtain ⟨bb, hbb⟩ : ∃ bb, (L k)[i]? = some bb := ⟨_, List.getElem?_eq_getElem hil⟩
              obtain ⟨g, cv, hVn, _⟩ := hrow.form (by omega)
              rw [hVn] at hg1 hrow
              have hc := hrow.cells (g := g) rfl i (.int .u8 bb) (by simp [num8, hbb])
              rw [Addr.add_lit, Nat.zero_add] at hc
              have HN : Hid (isA t er (S k) ((L k).take (i + 1)) = (isA t er (S k) ((L k).take i) || (er == 20 || (er == 0 && (t.toList == (fillS bb).toList))))) := by
                unfold Hid
                rw [List.take_add_one, hbb]
                exact isA_snoc ..
              clear hVn hrow hKA hbb
              cases hcur : isA t er (S k) ((L k).take i) with
              | true =>
                rw [hcur] at HN
                go_wp2_with fail
                go_roundw
                case rel => exact ⟨i + 1, by go_num, by omega, by rw [HN.out]; rfl, HKi.out, hBi⟩
                case measure => simp [intOf]; omega
              | false =>
                rw [hcur] at HN
                rcases her with rfl | rfl
                · go_wp2_with fail
                  refine (HKi.out.filled bb).mono ?_
                  rintro e w10 ⟨rfl, hK10, b10⟩
                  have hB10 : Below w.heap.size w w10 := hBi.trans (b10.mono (by have := b0.size; simp at this; omega))
                  cases hts : (t.toList == (fillS bb).toList) with
                  | true =>
                    rw [hts] at HN
                    go_wp2_with fail
                    go_roundw
                    case rel => exact ⟨i + 1, by go_num, by omega, by rw [HN.out]; rfl, hK10, hB10⟩
                    case measure => simp [intOf]; omega
                  | false =>
                    rw [hts] at HN
                    go_wp2_with fail
                    go_roundw
                    case rel => exact ⟨i + 1, by go_num, by omega, by rw [HN.out]; rfl, hK10, hB10⟩
                    case measure => simp [intOf]; omega
                · go_wp2_with fail
                  go_roundw
                  case rel => exact ⟨i + 1, by go_num, by omega, by rw [HN.out]; rfl, HKi.out, hBi⟩
                  case measure => simp [intOf]; omega
            · obtain rfl : i = (L k).length := by omega
              have htr : isA t er (S k) ((L k).take (L k).length) = true := by rw [List.take_length]; exact isA_true HCA.out
              obtain ⟨Av, cv, hVn⟩ := own_slice hrow
              rw [hVn] at hg1
              clear hVn hrow hKA
              rw [htr]
              clear htr
              go_wp2_with fail
              go_roundw
              case rel => exact ⟨k + 1, by go_num, by omega, HKi.out, hBi⟩
              case measure => simp [intOf]; omega
      · obtain rfl : k = 40 := by omega
        go_wp2_with fail
        refine (read_nil _ 0).mono ?_
        rintro e w8 ⟨rfl, b8⟩
        have hK8 := hKk.below b8
        have hB8 : Below w.heap.size w w8 := hBk.trans (b8.mono hBk.size)
        clear hKk hBk b8
        go_wp2_with fail
        refine hK8.waits.mono ?_
        rw [HQ7.out]
        rintro e w' ⟨rfl, rfl⟩
        go_wp2_with fail
        refine (down_nil _).mono ?_
        rintro e w' ⟨rfl, rfl⟩
        go_wp2_with fail
        refine (sectors_nil _).mono ?_
        rintro e w' ⟨rfl, rfl⟩
        go_wp2_with fail
        go_ret
        exact ⟨rfl, hB8⟩

end Go.Proofs.Ytbikplckehbcnaa
