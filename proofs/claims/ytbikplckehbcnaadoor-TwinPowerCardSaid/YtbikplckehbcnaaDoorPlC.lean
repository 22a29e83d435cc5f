/- A plate, wherever it lies; Write; the methods that only read; New. -/
import Derived.Test.YtbikplckehbcnaaDoorPlB
set_option linter.unusedVariables false
set_option linter.unusedSimpArgs false
namespace Go.Proofs.YtbikplckehbcnaaDoor
open Go Go.RowKit

/-- At block p there is a plate in the state s; all its blocks are among F. -/
def IsPlate (w : World) (F : Nat → Prop) (p : Nat) (s : PSt) : Prop :=
  ∃ m qv n D, Plate0 w p m qv s ∧ w.ownsMap Tryd.prog 3 qelem m n D ∧ MapFn D s.secs ∧ F p ∧ F m ∧ (∀ g, qv.ownBlock = some g → F g) ∧ (n : Int) + s.queue.length ≤ s.acts ∧ s.Ok

theorem IsPlate.ok {w : World} {F : Nat → Prop} {p : Nat} {s : PSt} (h : IsPlate w F p s) : s.Ok := by obtain ⟨_, _, _, _, _, _, _, _, _, _, _, h⟩ := h; exact h
theorem IsPlate.lt {w : World} {F : Nat → Prop} {p : Nat} {s : PSt} (h : IsPlate w F p s) : p < w.heap.size := by obtain ⟨_, _, _, _, h, _⟩ := h; exact h.blk.lt

/-- It stays what it is while nothing of it is touched. -/
theorem IsPlate.fr {w w' : World} {F G : Nat → Prop} {p : Nat} {s : PSt} (h : IsPlate w F p s) (hf : Fr G w w') (hn : ∀ k, F k → ¬ G k) : IsPlate w' F p s := by
  obtain ⟨m, qv, n, D, h0, hm, hD, hFp, hFm, hFq, hb, hok⟩ := h
  exact ⟨m, qv, n, D, ⟨h0.blk.fr hf (hn p hFp), own_fr h0.que hf fun g hg => hn g (hFq g hg)⟩, map_fr hm hf (hn m hFm), hD, hFp, hFm, hFq, hb, hok⟩
theorem IsPlate.mono {w : World} {F F' : Nat → Prop} {p : Nat} {s : PSt} (h : IsPlate w F p s) (hs : ∀ k, F k → F' k) : IsPlate w F' p s := by
  obtain ⟨m, qv, n, D, h0, hm, hD, hFp, hFm, hFq, hb, hok⟩ := h
  exact ⟨m, qv, n, D, h0, hm, hD, hs _ hFp, hs _ hFm, fun g hg => hs _ (hFq g hg), hb, hok⟩

theorem qcells_length (l : List (Int × ByteArray)) : (qcells l).length = l.length * 2 := by
  induction l with
  | nil => rfl
  | cons x l ih => simp [qcells] at ih ⊢; omega
theorem qcells_snoc (l : List (Int × ByteArray)) (x : Int × ByteArray) : qcells (l ++ [x]) = qcells l ++ [.int .i64 x.1, .string x.2] := by simp [qcells]
theorem wr_info : ((Tryd.prog.info? 94).map fun i => (i.zero, i.size, i.bytes)) = some (some (.agg #[.int .i64 0, .string ByteArray.empty]), 2, 24) := by kernel_rfl

/-- What a call on a plate leaves. -/
def Left (w w' : World) (F : Nat → Prop) (p : Nat) (s : PSt) : Prop := ∃ F', IsPlate w' F' p s ∧ Fr F w w' ∧ Sub w F F'

set_option maxHeartbeats 400000 in
theorem write_any (w : World) (F : Nat → Prop) (p : Nat) (s : PSt) (n : Int) (t : ByteArray) (h : IsPlate w F p s) (h1 : s.life < 4611686018427387904) (h3 : s.acts < 1099511627776) (ht : t.size ≤ 9223372036854775807) :
    Calls Tryd.prog 75 #[.pointer (some ⟨p, 0, none⟩), .int .i64 n, .string t] w fun e w' => e = .returned (.int .i64 (s.write n t).2) ∧ Left w w' F p (s.write n t).1 := by
  obtain ⟨m, qv, nn, D, hP, hM, hD, hFp, hFm, hFq, hb, hok⟩ := h
  have h0 := hok.l0
  have h2 := hok.n0
  have h4 := hok.a0
  have h5 := hok.a1
  have HP := Lib.hid hP
  by_cases hr : s.rdy n = 0
  · by_cases hl : t.size = 256
    · have HS : Hid (s.write n t = ({ s with queue := s.queue ++ [(n, t)] } : PSt).act) := by unfold PSt.write; rw [if_neg (by omega), if_neg (by omega)]; exact rfl
      have e1 : ((t.size : Int) != 256) = false := by rw [bne_eq_false_iff_eq]; omega
      have e0 : s.rdy n = 0 := hr
      have hq1 := hP.blk.cell 2
      have hq2 := hP.blk.frozen 2
      simp only [List.getElem?_toArray] at hq1
      obtain ⟨i0, hi, hz⟩ := Option.map_eq_some_iff.1 wr_info
      simp only [Prod.mk.injEq] at hz
      have HZ := Lib.hid hz
      have HR := Lib.hid hr
      have HL := Lib.hid hl
      have hnn : 0 ≤ n ∧ n < s.count := by
        have : s.rdy n = 0 := hr
        unfold PSt.rdy at this
        split at this
        · omega
        · split at this
          · omega
          · split at this
            · omega
            · omega
      clear hP hz hr hl e0
      have hql : s.queue.length < 1099511627776 := by omega
      go_enter Tryd.func75, Tryd.ntmps75
      go_wp2_with fail
      refine (ready_any _ p m qv s n HP.out).mono ?_
      rw [HR.out]
      rintro e w' ⟨rfl, rfl⟩
      go_wp2_with (at_builtin; refine wpList_append_own_at _ rfl _ _ 80 rfl 0 94 i0 _ 2 24 Tryd.underlying80 hi HZ.out.1 HZ.out.2.1 HZ.out.2.2 rfl (by decide) qv s.queue.length (qcells s.queue) rfl (HP.out.que.alloc _) ⟨w.heap.size, 0, none⟩ 1 1 [.int .i64 n, .string t] rfl rfl (World.news_of_block (cs := #[.int .i64 n, .string t]) (t := 94) (fr := (0, 0)) (heap_alloc_new w _)) ?c1 (by simp only [maxLen]; omega) (by omega) (Nat.zero_le _) ?_)
      case c1 => intro u hu; simp at hu; rcases hu with rfl | rfl <;> rfl
      intro v' w1 hown hg _ hat
      have hqn : v'.ownBlock ≠ some p := by
        rcases hat with e | e
        · rw [e]; exact own_blk_ne HP.out.que HP.out.blk (by decide)
        · rw [e]; have := HP.out.blk.lt; simp; omega
      have hne : some p ≠ qv.ownBlock := fun e => own_blk_ne HP.out.que HP.out.blk (by decide) e.symm
      have hb1 : Blk w1 p 82 _ := (HP.out.blk.alloc (.cells #[.int .i64 n, .string t] 94)).grown hg hne
      have hc1 := hb1.cell 2
      have hf1 := hb1.frozen 2
      simp only [List.getElem?_toArray] at hc1
      obtain ⟨A, c, hv'⟩ : ∃ g c, v' = .slice (some ⟨g, 0, none⟩) (s.queue.length + 1) c := by
        obtain ⟨g, c, e, _⟩ := hown.form (by omega)
        exact ⟨g, c, e⟩
      subst hv'
      have HO := Lib.hid hown
      have HG := Lib.hid hg
      have HB1 := Lib.hid hb1
      have HAT := Lib.hid hat
      clear hown hg hb1 hat hne
      go_wp2_with fail
      have hgp : ∀ g, (Value.slice (some ⟨A, 0, none⟩) (s.queue.length + 1) c).ownBlock = some g → g ≠ p := fun g hg e => hqn (by rw [hg, e])
      have hP2 : Plate0 (w1.setCell ⟨p, 2, none⟩ (.slice (some ⟨A, 0, none⟩) (s.queue.length + 1) c)) p m (.slice (some ⟨A, 0, none⟩) (s.queue.length + 1) c) ({ s with queue := s.queue ++ [(n, t)] } : PSt) :=
        ⟨HB1.out.set_ 2 _, by
          have := own_fr HO.out ((Fr.refl (One p) w1).one 2 (.slice (some ⟨A, 0, none⟩) (s.queue.length + 1) c)) (fun g hg e => hgp g hg e)
          rw [qcells_snoc]; simpa using this⟩
      refine (act_any _ p m _ _ hP2 h0 h1 h2 (by exact Int.lt_trans h3 (by decide)) h4 h5).mono ?_
      rintro e w2 ⟨rfl, hA, hF2⟩
      have HA := Lib.hid hA
      have HF2 := Lib.hid hF2
      clear hA hF2
      go_wp2_with fail
      go_ret
      rw [HS.out]
      have hFw : Fr F w w2 := by
        have f1 : Fr F w w1 := (((Fr.refl F w).alloc (.cells #[.int .i64 n, .string t] 94)).grown HG.out (fun k hk => .inl (hFq k hk)))
        exact (f1.set (.inl hFp) 2 _).trans (HF2.out.mono (fun k hk => by rw [show k = p from hk]; exact hFp)) (Sub.refl _ _)
      have hnew : ∀ g, (Value.slice (some ⟨A, 0, none⟩) (s.queue.length + 1) c).ownBlock = some g → F g ∨ w.heap.size ≤ g := fun g hg => by
        rcases HAT.out with e | e
        · rw [e] at hg; exact .inl (hFq g hg)
        · rw [e] at hg; simp at hg; exact .inr (by omega)
      have hmp : m ≠ p := map_blk_ne hM HP.out.blk
      have hmq : some m ≠ qv.ownBlock := fun e => map_own_ne hM HP.out.que e.symm
      have hM2 : w2.ownsMap Tryd.prog 3 qelem m nn D :=
        map_fr (map_fr (map_fr (map_fr hM ((Fr.refl Nope w).alloc (.cells #[.int .i64 n, .string t] 94)) (fun h => h)) ((Fr.refl (fun k => some k = qv.ownBlock) _).grown HG.out (fun k hk => .inl hk.symm)) hmq) ((Fr.refl (One p) w1).one 2 _) hmp) HF2.out hmp
      refine ⟨rfl, fun k => F k ∨ (Value.slice (some ⟨A, 0, none⟩) (s.queue.length + 1) c).ownBlock = some k, ⟨m, _, nn, D, HA.out, hM2, ?_, .inl hFp, .inl hFm, fun g hg => .inr hg, ?_, ?_⟩, hFw, ?_⟩
      · rw [PSt.act_secs]; exact hD
      · rw [PSt.act_queue, PSt.act_acts]; simp; omega
      · refine PSt.ok_act ⟨hok.c1, hok.c2, h4, h5, h2, h0, ?_⟩
        intro x hx
        rcases List.mem_append.1 hx with hx | hx
        · exact hok.que x hx
        · rw [List.mem_singleton.1 hx]; exact ⟨hnn.1, hnn.2, HL.out⟩
      · intro k hk
        rcases hk with hk | hk
        · exact .inl hk
        · exact hnew k hk
    · have HS : Hid (s.write n t = (s, 1)) := by unfold PSt.write; rw [if_neg (by omega), if_pos hl]; exact rfl
      have e1 : ((t.size : Int) != 256) = true := by rw [bne_iff_ne]; omega
      have HR := Lib.hid hr
      clear hP hr
      go_enter Tryd.func75, Tryd.ntmps75
      go_wp2_with fail
      refine (ready_any _ p m qv s n HP.out).mono ?_
      rw [HR.out]
      rintro e w' ⟨rfl, rfl⟩
      go_wp2_with fail
      go_ret
      rw [HS.out]
      exact ⟨rfl, F, ⟨m, qv, nn, D, HP.out, hM, hD, hFp, hFm, hFq, hb, hok⟩, Fr.refl _ _, Sub.refl _ _⟩
  · have HS : Hid (s.write n t = (s, s.rdy n)) := by unfold PSt.write; rw [if_pos hr]; exact rfl
    have e1 : (s.rdy n != 0) = true := by rw [bne_iff_ne]; exact hr
    clear hP
    go_enter Tryd.func75, Tryd.ntmps75
    go_wp2_with fail
    refine (ready_any _ p m qv s n HP.out).mono ?_
    rintro e w' ⟨rfl, rfl⟩
    go_wp2_with fail
    go_ret
    rw [HS.out]
    exact ⟨rfl, F, ⟨m, qv, nn, D, HP.out, hM, hD, hFp, hFm, hFq, hb, hok⟩, Fr.refl _ _, Sub.refl _ _⟩

end Go.Proofs.YtbikplckehbcnaaDoor
