/- Read. -/
import Derived.RegionIn
import Derived.Test.YtbikplckehbcnaaDoorPlR
import Derived.Test.YtbikplckehbcnaaDoorPlH
import Derived.Test.YtbikplckehbcnaaDoorShelf
set_option linter.unusedVariables false
set_option linter.unusedSimpArgs false
namespace Go.Proofs.YtbikplckehbcnaaDoor
open Go Go.RowKit Go.Shelf

attribute [local go_sem] Oper.semAt_some

theorem zero_str (w : World) : (zeroValue 9).run Tryd.prog w = .ok (.string ⟨#[]⟩) w := by kernel_rfl
set_option maxRecDepth 100000 in
theorem map_look {W : World} {m k : Nat} {D : DataW Unit} {f : Int → Option ByteArray} (h : W.ownsMap Tryd.prog 3 qelem m k D) (hf : MapFn D f) (n : Int) (h0 : 0 ≤ n) (h1 : n < 16384) :
    (Instr.lookup 79 (.map (some m)) (.int .i64 n) true).run Tryd.prog W = .ok (.tuple #[.string ((f n).getD ⟨#[]⟩), .bool (f n).isSome]) W := by
  obtain ⟨v, ps, hr, hv⟩ := h.look_ok law_int Tryd.underlying79 (zero_str W) (plainElem_string Tryd.underlying9 (by simp [maxLen, ByteArray.size])) (Maps.keyOf_int_mk Tryd.underlying3 (wf_small h0 h1))
  obtain ⟨t, rfl, ht, _⟩ := plainElem_string_inv Tryd.underlying9 hv
  have hw := hf n (wf_small h0 h1)
  rw [hr, hw.1]
  congr 4
  cases hfn : f n with
  | none =>
    rw [hfn] at hw
    have hz := Maps.atKey_of_not_has (D := D) (by simpa using hw.1) (.lit (.string (⟨#[]⟩ : ByteArray).data.toList))
    rw [hz] at ht
    simp only [Prod.mk.injEq] at ht
    have := ht.1
    injection this with e
    injection e with e
    have : t = ⟨#[]⟩ := by
      cases t
      rename_i d
      congr 1
      exact Array.ext' e.symm
    simp [this]
  | some u =>
    rw [hfn] at hw
    rw [hw.2 u rfl] at ht
    simp only [Prod.mk.injEq] at ht
    have := ht.1
    injection this with e
    injection e with e
    have : t = u := by
      cases t
      cases u
      congr 1
      exact Array.ext' e.symm
    simp [this]

theorem QAt.up {n₀ n₁ : Nat} {W : World} {qv : Value} {q : List (Int × ByteArray)} (h : QAt n₀ W qv q) (hn : n₀ ≤ n₁) : QAt n₁ W qv q :=
  ⟨h.1, h.2.imp id (fun ⟨g, c, e, hg, hc⟩ => ⟨g, c, e, by omega, hc⟩)⟩

theorem blk_own (g : Nat) (t : TypeId) (cs : Array Value) : Own (fun (_ : Unit) W => Blk W g t cs) := fun s X Y row hs hg hr => hs.grown hg (fun e => by
  obtain ⟨o, ho, hc⟩ := hr g e.symm
  unfold Blk at hs
  rw [hs] at ho
  cases ho
  simp [Obj.isCells] at hc)

/-- The world in which Read's loop begins. -/
def rdW (w : World) (n : Int) (A : Option Addr) (len c : Nat) : World :=
  (((w.alloc (.cells #[.int .i64 n] 3)).alloc (.cells #[.string ⟨#[]⟩] 9)).alloc (.cells #[.int .i64 0] 37)).alloc (.cells #[.slice A len c] 80)
theorem rdW_size (w : World) (n : Int) (A : Option Addr) (len c : Nat) : (rdW w n A len c).heap.size = w.heap.size + 4 := by simp [rdW]
theorem rdW_below (w : World) (n : Int) (A : Option Addr) (len c : Nat) : Below w.heap.size w (rdW w n A len c) := by
  unfold rdW
  exact ((((Below.refl _ w).alloc (Nat.le_refl _) _).alloc (by simp) _).alloc (by simp; omega) _).alloc (by simp; omega) _
theorem rdW_blk (w : World) (n : Int) (A : Option Addr) (len c : Nat) : Blk (rdW w n A len c) w.heap.size 3 #[.int .i64 n] ∧ Blk (rdW w n A len c) (w.heap.size + 1) 9 #[.string ⟨#[]⟩] ∧
    Blk (rdW w n A len c) (w.heap.size + 2) 37 #[.int .i64 0] ∧ Blk (rdW w n A len c) (w.heap.size + 3) 80 #[.slice A len c] := by
  unfold rdW
  have b0 := Blk.new w 3 #[.int .i64 n]
  have b1 := Blk.new (w.alloc (.cells #[.int .i64 n] 3)) 9 #[.string ⟨#[]⟩]
  have b2 := Blk.new ((w.alloc (.cells #[.int .i64 n] 3)).alloc (.cells #[.string ⟨#[]⟩] 9)) 37 #[.int .i64 0]
  have b3 := Blk.new (((w.alloc (.cells #[.int .i64 n] 3)).alloc (.cells #[.string ⟨#[]⟩] 9)).alloc (.cells #[.int .i64 0] 37)) 80 #[.slice A len c]
  simp only [World.size_alloc] at b1 b2 b3
  exact ⟨((b0.alloc _).alloc _).alloc _, (b1.alloc _).alloc _, b2.alloc _, b3⟩

theorem rd_new (w : World) (n e : Int) (t : ByteArray) (W : World) (hW : W = ((w.alloc (.cells #[.int .i64 n] 3)).alloc (.cells #[.string t] 9)).alloc (.cells #[.int .i64 e] 37)) :
    W.cell? ⟨w.heap.size + 1, 0, none⟩ = some (.string t) ∧ W.cell? ⟨w.heap.size + 1 + 1, 0, none⟩ = some (.int .i64 e) ∧ Below w.heap.size w W := by
  subst hW
  have b1 := Blk.new (w.alloc (.cells #[.int .i64 n] 3)) 9 #[.string t]
  have b2 := Blk.new ((w.alloc (.cells #[.int .i64 n] 3)).alloc (.cells #[.string t] 9)) 37 #[.int .i64 e]
  simp only [World.size_alloc] at b1 b2
  exact ⟨(b1.alloc _).cell 0, b2.cell 0, (((Below.refl _ w).alloc (Nat.le_refl _) _).alloc (by simp) _).alloc (by simp; omega) _⟩

theorem rd_results (W : World) (tmps : Array Value) (b4 b5 : Nat) (t : ByteArray) (e : Int) (h4 : tmps[4]?.getD undef = .pointer (some ⟨b4, 0, none⟩)) (h5 : tmps[5]?.getD undef = .pointer (some ⟨b5, 0, none⟩))
    (c4 : W.cell? ⟨b4, 0, none⟩ = some (.string t)) (c5 : W.cell? ⟨b5, 0, none⟩ = some (.int .i64 e)) : (results Tryd.f33 tmps).run Tryd.prog W = .ok (.tuple #[.string t, .int .i64 e]) W := by
  simp [results, Tryd.f33, go_sem, h4, h5, c4, c5]

/-- The end: the two results are stored, the loop's mark is taken. -/
theorem rd_close {w Wx : World} {D' b4 b5 : Nat} {t0 e0 : Value} (t : ByteArray) (e : Int) (hD : w.heap.size ≤ D') (h4 : w.heap.size ≤ b4) (h5 : w.heap.size ≤ b5) (hne : b4 ≠ b5) (hK : Wx.heap[D']? = some (.deferred (some [])))
    (B4 : Blk Wx b4 9 #[t0]) (B5 : Blk Wx b5 37 #[e0]) (hB : Below w.heap.size w Wx) (W1 : World) (hW : W1 = (Wx.setCell ⟨b4, 0, none⟩ (.string t)).setCell ⟨b5, 0, none⟩ (.int .i64 e)) :
    W1.heap[D']? = some (.deferred (some [])) ∧ (W1.putObj D' (.deferred none)).cell? ⟨b4, 0, none⟩ = some (.string t) ∧ (W1.putObj D' (.deferred none)).cell? ⟨b5, 0, none⟩ = some (.int .i64 e) ∧ Below w.heap.size w (W1.putObj D' (.deferred none)) := by
  subst hW
  have hK1 := (KeepsOthers.setCell Wx ⟨b4, 0, none⟩ (.string t)).same D' _ hK rfl
  have hK2 := (KeepsOthers.setCell (Wx.setCell ⟨b4, 0, none⟩ (.string t)) ⟨b5, 0, none⟩ (.int .i64 e)).same D' _ hK1 rfl
  have C4 := ((B4.set_ 0 (.string t)).far (p := ⟨b5, 0, none⟩) hne (.int .i64 e)).cell 0
  have C5 := ((B5.far (p := ⟨b4, 0, none⟩) (fun h => hne h.symm) (.string t)).set_ 0 (.int .i64 e)).cell 0
  refine ⟨hK2, cell_kept C4 (grownBy_putObj' _ D' (.deferred none)) (fun r e => by cases e; exact ⟨_, hK2, rfl⟩), cell_kept C5 (grownBy_putObj' _ D' (.deferred none)) (fun r e => by cases e; exact ⟨_, hK2, rfl⟩), ?_⟩
  exact ((hB.setCell (p := ⟨b4, 0, none⟩) h4 _).setCell (p := ⟨b5, 0, none⟩) h5 _).trans (belowK_b (w := w) (Nat.le_refl _) _ D' _ _ hD hK2 rfl rfl)

/-- The same behind a draw. -/
theorem rd_close_drew {w Wx : World} {D' b4 b5 : Nat} {t0 e0 : Value} (t : ByteArray) (e : Int) (hD : w.heap.size ≤ D') (h4 : w.heap.size ≤ b4) (h5 : w.heap.size ≤ b5) (hne : b4 ≠ b5) (hK : Wx.heap[D']? = some (.deferred (some [])))
    (B4 : Blk Wx b4 9 #[t0]) (B5 : Blk Wx b5 37 #[e0]) (hB : Below w.heap.size w Wx) (W1 : World) (hW : W1 = ((Wx.setCell ⟨b4, 0, none⟩ (.string t)).setCell ⟨b5, 0, none⟩ (.int .i64 e)).drew) :
    W1.heap[D']? = some (.deferred (some [])) ∧ (W1.putObj D' (.deferred none)).cell? ⟨b4, 0, none⟩ = some (.string t) ∧ (W1.putObj D' (.deferred none)).cell? ⟨b5, 0, none⟩ = some (.int .i64 e) ∧ Below w.heap.size w (W1.putObj D' (.deferred none)) := by
  subst hW
  obtain ⟨h1, h2, h3, h4⟩ := rd_close t e hD h4 h5 hne hK B4 B5 hB _ rfl
  exact ⟨h1, h2, h3, ⟨h4.os, h4.tape, h4.output, h4.size, h4.block⟩⟩

theorem zeros_eq : (⟨(Lib.repeatL (⟨#[0]⟩ : ByteArray).data.toList 256).toArray⟩ : ByteArray) = PSt.zeros := by
  have : Lib.repeatL (⟨#[0]⟩ : ByteArray).data.toList 256 = List.replicate 256 (0 : UInt8) := by decide +kernel
  rw [this]
  rfl

set_option maxRecDepth 100000 in
set_option maxHeartbeats 2000000 in
theorem read_any (w : World) (F : Nat → Prop) (p : Nat) (s : PSt) (n : Int) (h : IsPlate w F p s) (h3 : s.acts < 1099511627776) :
    Calls Tryd.prog 33 #[.pointer (some ⟨p, 0, none⟩), .int .i64 n] w fun e w' => e = .returned (.tuple #[.string (s.read n).1, .int .i64 (s.read n).2]) ∧ Below w.heap.size w w' := by
  obtain ⟨m, qv, nn, D, hP, hM, hD, hFp, hFm, hFq, hb, hok⟩ := h
  refine (callsIn_wide (n := 3)).1 ?_
  refine callsIn_of_wp_marks Tryd.func33 rfl trivial ?_ rfl
  simp only [Tryd.ntmps33, List.size_toArray, List.length_cons, List.length_nil, Nat.reduceAdd, Nat.reduceSub, Array.replicate_succ, Array.replicate_zero, List.push_toArray, List.append_toArray, List.nil_append, List.cons_append]
  have HP := Lib.hid hP
  have hPa : Plate0 (((w.alloc (.cells #[.int .i64 n] 3)).alloc (.cells #[.string ⟨#[]⟩] 9)).alloc (.cells #[.int .i64 0] 37)) p m qv s := ((hP.alloc _).alloc _).alloc _
  have HPA := Lib.hid hPa
  by_cases hr : s.rdy n = 0
  · obtain ⟨A, c, hqv⟩ := own_slice hP.que
    subst hqv
    have hq1 := hPa.blk.cell 2
    simp only [List.getElem?_toArray] at hq1
    have hlt := hP.blk.lt
    have hq : QAt w.heap.size w (.slice A s.queue.length c) s.queue := QAt.of (by have := hok.n0; omega) hP.que
    have HR := Lib.hid hr
    clear hP hPa hr
    gi_wp2_with (first
      | (refine ⟨trivial, ?_⟩; gi_at_call 69; refine (callsIn_wide.2 (ready_any _ p m _ s n HPA.out)).mono ?_; rw [HR.out]; rintro e w' ⟨rfl, rfl⟩)
      | (refine ⟨trivial, ?_⟩; gi_at_call 70; refine (backward_in Fence.wide _ trivial rfl _ _ _ _).mono ?_; rintro e w' ⟨rfl, rfl⟩))
    obtain ⟨W0, hW0⟩ : ∃ W0, rdW w n A s.queue.length c = W0 := ⟨_, rfl⟩
    have hsz := rdW_size w n A s.queue.length c
    have hB0 := rdW_below w n A s.queue.length c
    obtain ⟨b0, b1, b2, b3⟩ := rdW_blk w n A s.queue.length c
    rw [show (((w.alloc (.cells #[.int .i64 n] 3)).alloc (.cells #[.string ⟨#[]⟩] 9)).alloc (.cells #[.int .i64 0] 37)).alloc (.cells #[.slice A s.queue.length c] 80) = rdW w n A s.queue.length c from rfl]
    rw [hW0] at hsz hB0 b0 b1 b2 b3 ⊢
    clear hW0
    refine wpIn_rangeFunc_ownH rfl (by omega) (gf := 96) (lb := #[.pointer (some ⟨w.heap.size + 3, 0, none⟩)]) rfl trivial (enters_of Tryd.func96 (by kernel_rfl) rfl)
      (bwd_stops Fence.wide _ trivial rfl (by omega) (w.heap.size + 3) W0.heap.size _ s.queue W0 (by omega) (by omega) (Nat.le_refl _) (b3.cell 0) (hq.below hB0 |>.up (by omega))) belowK_t (belowK_b (Nat.le_refl _)) (Below.refl _ _) (fun _ => rfl)
      (fun pre W => (∀ y ∈ pre, y.2.1 ≠ n) ∧ Below W0.heap.size W0 W)
      (fun cd pre W => (cd = .ret ∧ (∃ pre' x, pre = pre' ++ [x] ∧ (∀ y ∈ pre', y.2.1 ≠ n) ∧ x.2.1 = n ∧ Blk W (w.heap.size + 1) 9 #[.string x.2.2] ∧ Blk W (w.heap.size + 2) 37 #[.int .i64 0])) ∧ Below w.heap.size w W)
      (OwnFrom.and (ownFrom_pure _ _) (ownFrom_below (Nat.le_refl _) (Nat.le_refl _)))
      (fun cd => OwnFrom.and (fun s X Y row hs hg hr => ⟨hs.1, by obtain ⟨pre', x, e, h1, h2, h3, h4⟩ := hs.2; exact ⟨pre', x, e, h1, h2, blk_own _ _ _ () X Y row h3 hg (fun r e => (hr r e).2), blk_own _ _ _ () X Y row h4 hg (fun r e => (hr r e).2)⟩⟩) (ownFrom_below (Nat.le_refl _) (by omega)))
      ⟨by simp, Below.refl _ _⟩
      (fun x a' W => ∃ Bx, W0.heap.size ≤ Bx ∧ Blk W Bx 94 #[.int .i64 x.2.1, .string x.2.2] ∧ a' = { tmps := #[.pointer (some ⟨p, 0, none⟩), .int .i64 n, undef, .pointer (some ⟨w.heap.size, 0, none⟩), .pointer (some ⟨w.heap.size + 1, 0, none⟩), .pointer (some ⟨w.heap.size + 2, 0, none⟩), .int .i64 0, undef, .pointer (some ⟨Bx, 0, none⟩), undef, undef, .pointer (some ⟨p, 0, none⟩), .int .i64 n, .int .i64 0, .int .i64 0, .bool false, undef, .pointer (some ⟨p, 0, none⟩), .pointer (some ⟨p, 0, none⟩), .pointer (some ⟨p, 2, none⟩), .slice A s.queue.length c, .func (.func 96) #[] #[.pointer (some ⟨w.heap.size + 3, 0, none⟩)], .int .i64 (x.1 : Int), .agg #[.int .i64 x.2.1, .string x.2.2], undef, undef, undef, undef, undef, undef, undef, undef, undef, undef, undef, undef, undef, undef, undef, undef, undef, undef, undef, undef, undef, undef, undef], defers := [] })
      (fun x a' _ X Y row hs hg hr => by obtain ⟨Bx, h1, h2, h3⟩ := hs; exact ⟨Bx, h1, blk_own Bx _ _ () X Y row h2 hg (fun r e => (hr r e).2), h3⟩)
      ?assign ?body ?done ?stop
    case assign =>
      rintro l pre x W K ⟨hne, hB1⟩ hK
      dsimp only [encQ]
      gi_wp2
      exact hK _ _ ((KeepsOthers.alloc _ _).from _) ((Below.refl _ W).alloc hB1.size _) ⟨hne, hB1.alloc hB1.size _⟩ ⟨W.heap.size, hB1.size, Blk.new W _ _, rfl⟩
    case body =>
      rintro l pre x a' W hl ⟨r, hr⟩ ⟨hne, hB1⟩ ⟨Bx, hBx, bX, rfl⟩ hlt2
      have hx1 := bX.cell 0
      have hx2 := bX.cell 1
      have hn0 := (b0.below hB1 (by omega)).cell 0
      have B4 := b1.below hB1 (by omega)
      have B5 := b2.below hB1 (by omega)
      have h41 := B4.cell 0
      have h42 := B4.frozen 0
      have h51 := B5.cell 0
      have h52 := B5.frozen 0
      simp only [List.getElem?_toArray] at hx1 hx2 hn0 h41 h51
      have HB4 := Lib.hid B4
      have HB5 := Lib.hid B5
      clear B4 B5 b0 b1 b2 b3 bX
      by_cases hxn : x.2.1 = n
      · have e1 : (x.2.1 == n) = true := by rw [beq_iff_eq]; exact hxn
        have HXN := Lib.hid hxn
        clear hxn
        gi_wp2
        refine ⟨(KeepsOthers.setCell _ _ _).from _ |>.trans ((KeepsOthers.setCell _ _ _).from _), ⟨rfl, pre, x, rfl, hne, HXN.out, ?_, ?_⟩, ?_⟩
        · exact (HB4.out.set_ 0 _).far (by simp) _
        · exact (HB5.out.far (by simp) _).set_ 0 _
        · exact ((hB0.trans (hB1.mono (by omega))).setCell (p := ⟨w.heap.size + 1, 0, none⟩) (by simp) _).setCell (p := ⟨w.heap.size + 1 + 1, 0, none⟩) (by simp; omega) _
      · have e1 : (x.2.1 == n) = false := by rw [beq_eq_false_iff_ne]; exact hxn
        have HXN := Lib.hid hxn
        clear hxn
        gi_wp2
        exact ⟨KeepsFrom.refl _ _, Below.refl _ _, fun y hy => (List.mem_append.1 hy).elim (hne y) (fun e => by rw [List.mem_singleton.1 e]; exact HXN.out), hB1⟩
    case done =>
      rintro D' ys W hD' rfl ⟨hne, hB1⟩ hK
      have hL := last_none s.queue n hne
      have hbel : Below w.heap.size w W := hB0.trans (hB1.mono (by omega))
      have hc1 := (HP.out.blk.below hbel HP.out.blk.lt).cell 1
      have hn0 := (b0.below hB1 (by omega)).cell 0
      have B4 := b1.below hB1 (by omega)
      have B5 := b2.below hB1 (by omega)
      have h41 := B4.cell 0
      have h42 := B4.frozen 0
      have h51 := B5.cell 0
      have h52 := B5.frozen 0
      simp only [List.getElem?_toArray] at hc1 hn0 h41 h51
      have hrng : 0 ≤ n ∧ n < 16384 := by
        have e : s.rdy n = 0 := HR.out
        have := hok.c2
        unfold PSt.rdy at e
        split at e
        · omega
        · split at e
          · omega
          · split at e <;> omega
      have hMW : W.drew.ownsMap Tryd.prog 3 qelem m nn D := (hM.kept (row := none) ⟨hbel.os, hbel.tape, hbel.output, hbel.size, fun k hk _ => hbel.block k hk⟩ (by simp)).drew
      have hlook := map_look hMW hD n hrng.1 hrng.2
      have hS : s.read n = (match s.secs n with | none => (PSt.zeros, 0) | some t => if t.size = 0 then (ByteArray.empty, 20) else (t, 0)) := by unfold PSt.read; rw [if_neg (by have := HR.out; omega), hL]; cases s.secs n <;> rfl
      have HS := Lib.hid hS
      have HBEL := Lib.hid hbel
      have HB4 := Lib.hid B4
      have HB5 := Lib.hid B5
      clear B4 B5 b0 b1 b2 b3 hL hM hD hMW hS hbel hne
      cases hf : s.secs n with
      | none =>
        rw [hf] at hlook HS
        simp only [Option.getD_none, Option.isSome_none] at hlook
        clear hf
        gi_wp2_with fail
        gi_region
        gi_wp2_with (refine ⟨trivial, ?_⟩; gi_at_call 71; refine (callsIn_wide.2 (Tryd.strings_Repeat_main ⟨#[0]⟩ 256 _ (by omega) (by omega) (by decide) (by decide))).mono ?_; rw [zeros_eq]; rintro e w3 ⟨rfl, hb3⟩; have g4 := Lib.hid (HB4.out.drew.below hb3 HB4.out.lt); have g5 := Lib.hid (HB5.out.drew.below hb3 HB5.out.lt); have g41 := g4.out.cell 0; have g42 := g4.out.frozen 0; have g51 := g5.out.cell 0; have g52 := g5.out.frozen 0; have gK := Lib.hid ((hb3.block D' (Array.getElem?_eq_some_iff.1 hK).1).trans hK); simp only [List.getElem?_toArray] at g41 g51)
        have hZ := rd_close (w := w) PSt.zeros 0 (by omega) (by omega) (by omega) (by omega) gK.out g4.out g5.out (HBEL.out.drew.trans (hb3.mono HBEL.out.size)) _ rfl
        refine ⟨by simp, .inl ⟨_, _, rfl, run_takeDeferred hZ.1, ?_⟩⟩
        exact ⟨_, rd_results _ _ (w.heap.size + 1) (w.heap.size + 1 + 1) _ _ rfl rfl hZ.2.1 hZ.2.2.1, by rw [HS.out], hZ.2.2.2⟩
      | some t =>
        rw [hf] at hlook HS
        simp only [Option.getD_some, Option.isSome_some] at hlook
        clear hf
        by_cases ht : t.size = 0
        · obtain rfl : t = ⟨#[]⟩ := by
            cases t
            rename_i d
            congr 1
            exact Array.eq_empty_of_size_eq_zero ht
          clear ht
          gi_wp2_with fail
          gi_region
          gi_wp2
          have hZ := rd_close_drew (w := w) ⟨#[]⟩ 20 (by omega) (by omega) (by omega) (by omega) hK HB4.out HB5.out HBEL.out _ rfl
          refine ⟨by simp, .inl ⟨_, _, rfl, run_takeDeferred hZ.1, ?_⟩⟩
          exact ⟨_, rd_results _ _ (w.heap.size + 1) (w.heap.size + 1 + 1) _ _ rfl rfl hZ.2.1 hZ.2.2.1, by rw [HS.out]; rfl, hZ.2.2.2⟩
        · have ht1 : t.toList.isEmpty = false := by
            rw [← decide_eq_emptyBytes]
            exact decide_eq_false (fun h => ht (by rw [h]; rfl))
          have HT := Lib.hid ht
          clear ht
          gi_wp2_with fail
          gi_region
          gi_wp2
          have hZ := rd_close_drew (w := w) t 0 (by omega) (by omega) (by omega) (by omega) hK HB4.out HB5.out HBEL.out _ rfl
          refine ⟨by simp, .inl ⟨_, _, rfl, run_takeDeferred hZ.1, ?_⟩⟩
          exact ⟨_, rd_results _ _ (w.heap.size + 1) (w.heap.size + 1 + 1) _ _ rfl rfl hZ.2.1 hZ.2.2.1, by rw [HS.out]; rw [if_neg HT.out], hZ.2.2.2⟩
    case stop =>
      rintro D' cd pre W hD' hpre ⟨⟨rfl, pre', x, rfl, hne, hxn, B4, B5⟩, hB1⟩ hK
      have hSt : s.read n = (x.2.2, 0) := by
        unfold PSt.read
        obtain ⟨k, hk, hk2⟩ := hpre
        rw [if_neg (by have := HR.out; omega), last_some s.queue n k hk pre' x hk2 hne hxn]
      have HS := Lib.hid hSt
      have HB4 := Lib.hid B4
      have HB5 := Lib.hid B5
      clear hSt B4 B5 hne
      gi_wp2
      have c4 := cell_kept (HB4.out.cell 0) (grownBy_putObj' _ D' (.deferred none)) (fun r e => by cases e; exact ⟨_, hK, rfl⟩)
      have c5 := cell_kept (HB5.out.cell 0) (grownBy_putObj' _ D' (.deferred none)) (fun r e => by cases e; exact ⟨_, hK, rfl⟩)
      refine ⟨by simp, .inl ⟨_, _, rfl, run_takeDeferred hK, ?_⟩⟩
      exact ⟨_, rd_results _ _ (w.heap.size + 1) (w.heap.size + 1 + 1) _ _ rfl rfl c4 c5, by rw [HS.out], hB1.trans (belowK_b (w := w) (Nat.le_refl _) _ D' _ _ (by omega) hK rfl rfl)⟩
  · have HS : Hid (s.read n = (ByteArray.empty, s.rdy n)) := by unfold PSt.read; rw [if_pos hr]; exact rfl
    have e1 : (s.rdy n != 0) = true := by rw [bne_iff_ne]; exact hr
    clear hP hPa hr
    gi_wp2_with (first
      | (refine ⟨trivial, ?_⟩; gi_at_call 69; refine (callsIn_wide.2 (ready_any _ p m _ s n HPA.out)).mono ?_; rintro e w' ⟨rfl, rfl⟩))
    rw [HS.out]
    have hN := rd_new w n (s.rdy n) ⟨#[]⟩ _ rfl
    exact ⟨_, rd_results _ _ (w.heap.size + 1) (w.heap.size + 1 + 1) _ _ rfl rfl hN.1 hN.2.1, rfl, hN.2.2⟩

end Go.Proofs.YtbikplckehbcnaaDoor
