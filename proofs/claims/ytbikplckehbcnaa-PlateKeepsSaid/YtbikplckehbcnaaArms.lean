/- PlateArms: the power goes in just the act that was armed: the walk. -/
import Derived.Test.YtbikplckehbcnaaPlV
set_option linter.unusedVariables false
set_option linter.unusedSimpArgs false
namespace Go.Proofs.Ytbikplckehbcnaa
open Go Go.RowKit

/-- The slice at A reads as the writes xs (a number and a byte each). -/
def Writes (w : World) (A : Option Addr) (xs : List (Int × Int)) : Prop :=
  xs.length ≤ 1099511627776000 ∧ (0 < xs.length → ∃ b off, A = some ⟨b, off, none⟩ ∧ b < w.heap.size ∧ ∀ (j : Nat) (x : Int × Int), xs[j]? = some x → w.cell? ⟨b, off + j * 2, none⟩ = some (.int .i64 x.1) ∧ w.cell? ⟨b, off + j * 2 + 1, none⟩ = some (.int .u8 x.2))

/-- A plate that was armed to go in its m-th act, behind a acts. -/
structure ArmSt (m a : Int) (s : PSt) : Prop where
  c : s.count = 40
  d : s.down = false
  l : s.life = 0
  n : s.acts = a
  r : s.armed = m - a
  q : (s.queue.length : Int) = a

section
variable {m a : Int} {s : PSt} (h : ArmSt m a s)
include h
theorem ArmSt.far (k : Int) (t : ByteArray) (hk : 40 ≤ k) : s.write k t = (s, 1) := by
  have e : s.rdy k = 1 := by
    unfold PSt.rdy
    rw [h.d, h.c, if_neg (by decide), if_neg (by omega), if_pos hk]
  unfold PSt.write
  rw [e]
  rfl
theorem ArmSt.rdy0 (k : Int) (hk0 : 0 ≤ k) (hk : k < 40) : s.rdy k = 0 := by
  unfold PSt.rdy
  rw [h.d, h.c, if_neg (by decide), if_neg (by omega), if_neg (by omega)]
theorem ArmSt.next (k : Int) (t : ByteArray) (hk0 : 0 ≤ k) (hk : k < 40) (ht : t.size = 256) (ha : a + 1 < m) : ∃ s', s.write k t = (s', 0) ∧ ArmSt m (a + 1) s' := by
  have e := h.rdy0 k hk0 hk
  have hr := h.r
  refine ⟨{ s with queue := s.queue ++ [(k, t)], acts := s.acts + 1, armed := s.armed - 1 }, ?_, ⟨h.c, h.d, h.l, by simp [h.n], by simp [h.r]; omega, by simp [h.q]⟩⟩
  unfold PSt.write PSt.act
  rw [e, if_neg (by omega), if_neg (by omega), if_pos (by simp; omega), if_neg (by simp; omega)]
theorem ArmSt.last (k : Int) (t : ByteArray) (hk0 : 0 ≤ k) (hk : k < 40) (ht : t.size = 256) (ha : a + 1 = m) : ∃ s', s.write k t = (s', 10) ∧ s'.down = true ∧ s'.acts = m ∧ s'.life = 1 ∧ (s'.queue.length : Int) = m := by
  have e := h.rdy0 k hk0 hk
  have hr := h.r
  refine ⟨{ s with queue := s.queue ++ [(k, t)], acts := s.acts + 1, armed := 0, down := true, life := s.life + 1 }, ?_, rfl, by simp [h.n]; omega, by simp [h.l], by have := h.q; simp; omega⟩
  unfold PSt.write PSt.act PSt.off
  rw [e, if_neg (by omega), if_neg (by omega), if_pos (by simp; omega), if_pos (by simp; omega)]
  simp [h.d]
end
theorem read_ex (s : PSt) (n : Int) : ∃ t r, s.read n = (t, r) := ⟨_, _, rfl⟩
theorem armSt_fresh (m : Int) (hm : 0 ≤ m) : ArmSt m 0 ((PSt.fresh 40).arm m) := by
  refine ⟨by simp [PSt.fresh, PSt.arm]; decide, rfl, rfl, rfl, ?_, rfl⟩
  unfold PSt.arm
  simp only
  rw [if_neg (by omega)]
  omega

set_option maxRecDepth 100000 in
set_option maxHeartbeats 2000000 in
theorem arms_any (w : World) (n : Int) (A : Option Addr) (c : Nat) (xs : List (Int × Int)) (hxs : Writes w A xs) :
    Calls Try.prog 5 #[.int .i64 n, .slice A xs.length c] w fun e w' => e = .returned (.bool true) ∧ Below w.heap.size w w' := by
  obtain ⟨u1, u2, u3⟩ := umod n 120 (by omega) (by omega)
  have hr : Hid (1 ≤ wrap64 (1 + wrap64 ((IntKind.u64.wrap n).tmod 120)) ∧ wrap64 (1 + wrap64 ((IntKind.u64.wrap n).tmod 120)) ≤ 120) := by
    unfold Hid
    rw [u3]
    generalize (IntKind.u64.wrap n).tmod 120 = x at *
    unfold wrap64
    omega
  clear u1 u2 u3
  have HX := Lib.hid hxs
  have hl := hxs.1
  obtain ⟨b, off, hA⟩ : ∃ b off, xs.length = 0 ∨ A = some ⟨b, off, none⟩ := by
    rcases Nat.eq_zero_or_pos xs.length with hz | hz
    · exact ⟨0, 0, .inl hz⟩
    · obtain ⟨b, off, e, _⟩ := hxs.2 hz
      exact ⟨b, off, .inr e⟩
  clear hxs
  go_enter Try.func5, Try.ntmps5
  go_wp2_with fail
  refine (awake_any _).mono ?_
  rintro e w0 ⟨rfl, b0⟩
  go_wp2_with fail
  revert hr
  generalize wrap64 (1 + wrap64 ((IntKind.u64.wrap n).tmod 120)) = m
  intro hr
  obtain ⟨r1, r2⟩ := hr.out
  clear hr
  refine (new_to _ 40 _ rfl).mono ?_
  rintro e w1 ⟨rfl, h1, b1⟩
  go_wp2_with fail
  refine (arm_to _ _ _ _ _ m rfl h1 (by omega)).mono ?_
  rintro e w2 ⟨rfl, h2, b2⟩
  have a2 := armSt_fresh m (by omega)
  generalize (PSt.fresh 40).arm m = s2 at *
  clear h1
  have b1' := Lib.hid b0.size
  go_wp2_with fail
  go_loopw [6, 7] (fun av iv wr => ∃ (a : Int) (k : Nat) (s : PSt), av = .int .i64 a ∧ iv = .int .i64 k ∧ 0 ≤ a ∧ a < m ∧ k ≤ xs.length ∧ ArmSt m a s ∧ PlateLo w0.heap.size wr (w0.heap.size + 1) s ∧ Below w.heap.size w wr) (fun _ iv _ => xs.length - (intOf iv).toNat)
  case atStart => exact ⟨0, 0, s2, rfl, rfl, by omega, by omega, by omega, a2, h2, b0.trans ((b1.trans b2).mono b0.size)⟩
  case round =>
    obtain ⟨a, k, s, rfl, rfl, ha0, ham, hk, hs, hp, hB⟩ := hrel
    have HS := Lib.hid hs
    clear hs a2 h2 b0 b1 b2
    by_cases hlt : k < xs.length
    · by_cases h100 : k < 100
      · rcases hA with hz | rfl
        · omega
        obtain ⟨x, hx⟩ : ∃ x, xs[k]? = some x := ⟨_, List.getElem?_eq_getElem hlt⟩
        obtain ⟨b', off', e', hbw, hc⟩ := HX.out.2 (by omega)
        obtain ⟨rfl, rfl⟩ : b = b' ∧ off = off' := by injection e' with e1; injection e1 with e1 e2; exact ⟨e1, e2⟩
        obtain ⟨hc1, hc2⟩ := hc k x hx
        have hd1 : wr.cell? ⟨b, off + k * 2, none⟩ = some (.int .i64 x.1) := (hB.cell (p := ⟨b, off + k * 2, none⟩) hbw).trans hc1
        have hd2 : wr.cell? ⟨b, off + k * 2 + 1, none⟩ = some (.int .u8 x.2) := (hB.cell (p := ⟨b, off + k * 2 + 1, none⟩) hbw).trans hc2
        clear hc1 hc2 hc e' hx
        obtain ⟨v1, v2, v3⟩ := umod x.1 50 (by omega) (by omega)
        have hv : Hid (0 ≤ wrap64 ((IntKind.u64.wrap x.1).tmod 50) ∧ wrap64 ((IntKind.u64.wrap x.1).tmod 50) < 50) := by rw [v3]; exact ⟨v1, v2⟩
        clear v1 v2 v3
        go_wp2_with fail
        revert hv
        generalize wrap64 ((IntKind.u64.wrap x.1).tmod 50) = q
        intro hv
        obtain ⟨q0, q1⟩ := hv.out
        clear hv
        refine (filled_to _ _ _ _ x.2 hp).mono ?_
        rintro e w3 ⟨rfl, h3, b3⟩
        clear hd1 hd2 hp
        have hf := fillS_size x.2
        have HF := Lib.hid hf
        clear hf
        by_cases hq : 40 ≤ q
        · have HE := HS.out.far q (fillS x.2) hq
          go_wp2_with fail
          refine (write_to _ _ _ _ _ q _ _ HE h3 (by rw [HS.out.l]; decide) (by rw [HS.out.n]; omega) (by rw [HF.out]; omega)).mono ?_
          rintro e w4 ⟨rfl, h4, b4⟩
          clear h3 HE
          go_wp2_with fail
          obtain ⟨tt, rr, hev⟩ := read_ex s q
          refine (read_to _ _ _ _ q _ _ hev h4 (by rw [HS.out.n]; omega)).mono ?_
          rintro e w5 ⟨rfl, h5, b5⟩
          clear hev
          clear h4
          go_wp2_with fail
          go_roundw
          case rel => exact ⟨a, k + 1, s, rfl, by go_num, ha0, ham, by omega, HS.out, h5, hB.trans ((b3.trans (b4.trans b5)).mono (by have := b1'.out; omega))⟩
          case measure => simp [intOf]; omega
        · by_cases hlast : a + 1 = m
          · subst hlast
            obtain ⟨s4, HE, t1, t2, t3, t4⟩ := HS.out.last q (fillS x.2) q0 (by omega) HF.out rfl
            have T1 := Lib.hid t1
            have T2 := Lib.hid t2
            have T3 := Lib.hid t3
            have T4 := Lib.hid t4
            clear t1 t2 t3 t4
            go_wp2_with fail
            refine (write_to _ _ _ _ _ q _ _ HE h3 (by rw [HS.out.l]; decide) (by rw [HS.out.n]; omega) (by rw [HF.out]; omega)).mono ?_
            rintro e w4 ⟨rfl, h4, b4⟩
            clear h3 HE
            go_wp2_with fail
            obtain ⟨tt, rr, hev⟩ := read_ex s4 q
            refine (read_to _ _ _ _ q _ _ hev h4 (by rw [T2.out]; omega)).mono ?_
            rintro e w5 ⟨rfl, h5, b5⟩
            clear hev
            clear h4
            go_wp2_with fail
            refine (acts_is _ _ _ _ h5.choose_spec.1).mono ?_
            rw [T2.out]
            rintro e w' ⟨rfl, rfl⟩
            go_wp2_with fail
            refine (down_is _ _ _ _ h5.choose_spec.1).mono ?_
            rw [T1.out]
            rintro e w' ⟨rfl, rfl⟩
            go_wp2_with fail
            refine (down_is _ _ _ _ h5.choose_spec.1).mono ?_
            rw [T1.out]
            rintro e w' ⟨rfl, rfl⟩
            go_wp2_with fail
            refine (life_is _ _ _ _ h5.choose_spec.1).mono ?_
            rw [T3.out]
            rintro e w' ⟨rfl, rfl⟩
            go_wp2_with fail
            refine (waits_is _ _ _ _ h5.choose_spec.1).mono ?_
            rw [T4.out]
            rintro e w' ⟨rfl, rfl⟩
            go_wp2_with fail
            go_ret
            exact ⟨rfl, hB.trans ((b3.trans (b4.trans b5)).mono (by have := b1'.out; omega))⟩
          · obtain ⟨s4, HE, t1⟩ := HS.out.next q (fillS x.2) q0 (by omega) HF.out (by omega)
            have T1 := Lib.hid t1
            have HL := Lib.hid hlast
            clear t1 hlast
            have e1 : ((a + 1) == m) = false := by rw [beq_eq_false_iff_ne]; exact HL.out
            have e2 : ((a + 1) != (a + 1)) = false := by rw [bne_eq_false_iff_eq]
            go_wp2_with fail
            refine (write_to _ _ _ _ _ q _ _ HE h3 (by rw [HS.out.l]; decide) (by rw [HS.out.n]; omega) (by rw [HF.out]; omega)).mono ?_
            rintro e w4 ⟨rfl, h4, b4⟩
            clear h3 HE
            go_wp2_with fail
            obtain ⟨tt, rr, hev⟩ := read_ex s4 q
            refine (read_to _ _ _ _ q _ _ hev h4 (by rw [T1.out.n]; omega)).mono ?_
            rintro e w5 ⟨rfl, h5, b5⟩
            clear hev
            clear h4
            go_wp2_with fail
            refine (acts_is _ _ _ _ h5.choose_spec.1).mono ?_
            rw [T1.out.n]
            rintro e w' ⟨rfl, rfl⟩
            go_wp2_with fail
            refine (down_is _ _ _ _ h5.choose_spec.1).mono ?_
            rw [T1.out.d]
            rintro e w' ⟨rfl, rfl⟩
            go_wp2_with fail
            refine (down_is _ _ _ _ h5.choose_spec.1).mono ?_
            rw [T1.out.d]
            rintro e w' ⟨rfl, rfl⟩
            go_wp2_with fail
            go_roundw
            case rel => exact ⟨a + 1, k + 1, s4, rfl, by go_num, by omega, by have := HL.out; omega, by omega, T1.out, h5, hB.trans ((b3.trans (b4.trans b5)).mono (by have := b1'.out; omega))⟩
            case measure => simp [intOf]; omega
      · have h101 : ¬ ((k : Int) < 100) := by omega
        go_wp2_with fail
        refine (life_is _ _ _ _ hp.choose_spec.1).mono ?_
        rw [HS.out.l]
        rintro e w' ⟨rfl, rfl⟩
        go_wp2_with fail
        refine (down_is _ _ _ _ hp.choose_spec.1).mono ?_
        rw [HS.out.d]
        rintro e w' ⟨rfl, rfl⟩
        go_wp2_with fail
        go_ret
        exact ⟨rfl, hB⟩
    · go_wp2_with fail
      refine (life_is _ _ _ _ hp.choose_spec.1).mono ?_
      rw [HS.out.l]
      rintro e w' ⟨rfl, rfl⟩
      go_wp2_with fail
      refine (down_is _ _ _ _ hp.choose_spec.1).mono ?_
      rw [HS.out.d]
      rintro e w' ⟨rfl, rfl⟩
      go_wp2_with fail
      go_ret
      exact ⟨rfl, hB⟩

end Go.Proofs.Ytbikplckehbcnaa
