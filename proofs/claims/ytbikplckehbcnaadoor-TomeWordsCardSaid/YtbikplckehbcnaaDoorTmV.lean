/- A loop over an iterator that keeps what is left in a cell of its own (strings.SplitSeq): the caller's law, for a body that always goes on; the iterator's contract. -/
import Derived.RangeFuncNested
import Derived.RangeFuncBound
import Derived.RangeFuncCalls
import Derived.RangeFuncLeaves
import Derived.Shelf.Abstract
import Derived.Shelf.RegionOpen
import Derived.OwnWalkIn
import Derived.TacticsInMore
import Derived.LoopNIn
import Derived.LoopIn
import Derived.Test.YtbikplckehbcnaaDoorTmQ
set_option linter.unusedVariables false
set_option linter.unusedSimpArgs false
namespace Go.Proofs.YtbikplckehbcnaaDoor
open Go Go.RowKit Go.Shelf

attribute [local go_sem] Oper.semAt_some

/-- The iterator hands over just xs, one after the other, and writes the one cell of Bs besides. -/
def SeqCell {α : Type} (F : Fence) (n : Nat) (P : Program) (g : Nat) (lb : Array Value) (encs : α → Array Value) (Kp : World → World → Prop) (Bs : Nat) (xs : List α) (w : World) : Prop :=
  ∀ (l : Nat) (J : List α → World → Prop) (W : World), Below w.heap.size w W → (∀ pre W1 (y : ByteArray), J pre W1 → J pre (W1.setCell ⟨Bs, 0, none⟩ (.string y))) →
    (∀ pre x suf W1, J pre W1 → xs = pre ++ x :: suf → YieldAt F (n - 1) P l (encs x) W1 fun e W' => e = .returned (.bool true) ∧ J (pre ++ [x]) W' ∧ Kp W1 W') →
    J [] W → CallsIn F n P g (#[.func (.yield l) #[] #[]] ++ lb) W fun e W' => (∃ v, e = .returned v) ∧ J xs W'

/-- The body of a round goes on. -/
def goesOn {α : Type} (B : Nat) (Kp : World → World → Prop) (I : List α → World → Prop) (xs : List α) (W : World) : Exit → Act → World → Prop
  | .normal, _, W' => KeepsFrom B W W' ∧ Kp W W' ∧ I xs W'
  | _, _, _ => False

theorem wpIn_rangeCell {F : Fence} {n : Nat} {P : Program} {α : Type} {g : Operand} {ps : Array Tmp} {assign body : Code} {Q : Exit → Act → World → Prop} {a : Act} {w : World}
    (hro : F.round = none) (h1 : 1 ≤ n) {gf : Nat} {lb : Array Value} (hg : a.eval g = .func (.func gf) #[] lb) (hFg : F.fn gf) (eg : ∀ args w, (callFunc gf args).run P w = .ok (.enter gf args) w)
    {encs : α → Array Value} {Kp : World → World → Prop} {Bs : Nat} {xs : List α} {w0 : World} (hseq : SeqCell F (n - 1) P gf lb encs Kp Bs xs w0) (hBs : Bs < w.heap.size)
    (hKt : ∀ {A B C : World}, Kp A B → Kp B C → Kp A C) (hKb : ∀ (W : World) (l : Nat) (o o' : Obj), w.heap.size ≤ l → W.heap[l]? = some o → o.isCells = false → o.isWalk = false → Kp W (W.putObj l o')) (hb0 : Below w0.heap.size w0 w) (hps : ∀ x, (encs x).size = ps.size)
    (I : List α → World → Prop) (hI : OwnFrom w.heap.size I) (hIs : ∀ pre W (y : ByteArray), I pre W → I pre (W.setCell ⟨Bs, 0, none⟩ (.string y))) (h0 : I [] w) (Ax : α → Act → World → Prop) (hAx : ∀ x a', OwnFrom w.heap.size (fun (_ : Unit) W => Ax x a' W))
    (hassign : ∀ (l : Nat) (pre : List α) (x : α) (W : World) (K : Act → World → Prop), I pre W → (∀ a' W', KeepsFrom w.heap.size W W' → Kp W W' → I pre W' → Ax x a' W' → K a' W') →
      assign.wpIn (F.inRound l) (n - 1 - 1) P (Exit.then K (fun _ _ _ => False)) { tmps := (ps.zip (encs x)).foldl (fun t (p, v) => t.setIfInBounds p v) a.tmps, defers := [] } W)
    (hbody : ∀ (l : Nat) (pre : List α) (x : α) (suf : List α) (a' : Act) (W : World), w.heap.size ≤ l → I pre W → Ax x a' W → xs = pre ++ x :: suf → body.wpIn (F.inRound l) (n - 1 - 1) P (goesOn w.heap.size Kp I (pre ++ [x]) W) a' W)
    (hdone : ∀ (D : Nat) (W : World), w.heap.size ≤ D → I xs W → W.heap[D]? = some (.deferred (some [])) → Q .normal { a with defers := { target := .collected D, args := #[] } :: a.defers } W) :
    (Code.rangeFunc g ps assign body).wpIn F n P Q a w := by
  refine wpIn_rangeFunc ?_
  intro fn hfn
  rw [hro]
  let rec0 : LoopState → Option Code → Loop := fun st pe => { state := st, pending := pe, fn, tmps := a.tmps, params := ps, assign, body, defers := w.heap.size }
  let L := w.heap.size + 1
  let D := w.heap.size
  let W1 := (w.alloc (.deferred (some []))).alloc (.loop (rec0 .ready none))
  have hL1 : W1.heap[L]? = some (.loop (rec0 .ready none)) := by
    have := World.alloc_heap_new (w.alloc (.deferred (some []))) (.loop (rec0 .ready none))
    rwa [World.size_alloc] at this
  have hD1 : W1.heap[D]? = some (.deferred (some [])) := (Below.heap_alloc _ _ _ (by show w.heap.size < _; simp)).trans (World.alloc_heap_new w _)
  have hI1 : I [] W1 := hI.alloc _ (hI.alloc _ h0)
  have hb1 : Below w0.heap.size w0 W1 := hb0.trans ((((Below.refl _ w).alloc (Nat.le_refl _) _).alloc (by simp) _).mono hb0.size)
  refine ⟨L, [{ target := .collected D, args := #[] }], W1, { target := .fn (.func gf) lb, args := #[.func (.yield L) #[] #[]] }, W1, gf, #[.func (.yield L) #[] #[]] ++ lb, W1, ?_, ?_, ?_, ?_, fun _ => h1, ?_⟩
  · exact run_enterLoop_outer _ _ _ _ _
  · simp only [resolve, hg]
    simp [go_sem]
  · intro f' hf'
    simp [Target.leads] at hf'
    subst hf'
    exact hFg
  · simp [invoke, go_sem, eg]
  · refine (hseq L (fun pre W => I pre W ∧ W.heap[L]? = some (.loop (rec0 .ready none)) ∧ W.heap[D]? = some (.deferred (some []))) W1 hb1 ?_ ?_ ⟨hI1, hL1, hD1⟩).mono ?_
    · rintro pre W v ⟨hi, hl, hd⟩
      exact ⟨hIs pre W v hi, (Below.heap_setCell W _ (.string v) L (by show w.heap.size + 1 ≠ Bs; omega)).trans hl, (Below.heap_setCell W _ (.string v) D (by show w.heap.size ≠ Bs; omega)).trans hd⟩
    · rintro pre x suf W ⟨hi, hl, hd⟩ hx
      have hy := run_yield (P := P) (args := encs x) hl (hps x)
      refine ⟨fn, _, assign, body, hy, roundIn_of_wpIn hfn (hassign _ pre x W _ hi ?_)⟩
      intro a' Wa hkf hkp hia hax
      have hla := hkf.same _ _ (by show w.heap.size ≤ w.heap.size + 1; omega) hl rfl
      have hda := hkf.same _ _ (Nat.le_refl _) hd rfl
      have hlt : L < Wa.heap.size := (Array.getElem?_eq_some_iff.1 hla).1
      refine ⟨_, run_beginRound hla rfl, ?_⟩
      let busy : Loop := { rec0 .ready none with state := .busy }
      have hl2 : (Wa.putObj L (.loop busy)).heap[L]? = some (.loop busy) := World.putObj_heap_same hlt
      have hd2 : (Wa.putObj L (.loop busy)).heap[D]? = some (.deferred (some [])) := (World.putObj_heap_other (by show w.heap.size ≠ w.heap.size + 1; omega)).trans hda
      have hk2 : Kp Wa (Wa.putObj L (.loop busy)) := hKb _ _ _ _ (by show w.heap.size ≤ w.heap.size + 1; omega) hla rfl rfl
      refine wpIn_mono (hbody L pre x suf a' _ (by show w.heap.size ≤ w.heap.size + 1; omega) (hI.putObj _ hia (by show w.heap.size ≤ w.heap.size + 1; omega) hla rfl) ((hAx x a').putObj (s := ()) _ hax (by show w.heap.size ≤ w.heap.size + 1; omega) hla rfl) hx) ?_
      rintro e a3 W3 hp
      cases e with
      | normal =>
        obtain ⟨hk3, hkp3, hi3⟩ := hp
        have hl3 := hk3.same _ _ (by show w.heap.size ≤ w.heap.size + 1; omega) hl2 rfl
        have hd3 := hk3.same _ _ (Nat.le_refl _) hd2 rfl
        have hr := run_endRound (P := P) none hl3
        exact ⟨_, _, hr, rfl, ⟨hI.putObj _ hi3 (by show w.heap.size ≤ w.heap.size + 1; omega) hl3 rfl, World.putObj_heap_same (Array.getElem?_eq_some_iff.1 hl3).1, (World.putObj_heap_other (by show w.heap.size ≠ w.heap.size + 1; omega)).trans hd3⟩, hKt hkp (hKt (hKt hk2 hkp3) (hKb _ _ _ _ (by show w.heap.size ≤ w.heap.size + 1; omega) hl3 rfl rfl))⟩
      | ret => exact hp.elim
      | exit id => exact hp.elim
      | goto t => exact hp.elim
      | panic ch => exact hp.elim
      | outgrown => exact hp.elim
    · rintro e W2 ⟨⟨v, rfl⟩, hi, hl, hd⟩
      exact ⟨none, _, run_endLoop (P := P) hl (by simp [rec0]), hdone D _ (Nat.le_refl _) (hI.putObj _ hi (by show w.heap.size ≤ w.heap.size + 1; omega) hl rfl) ((World.putObj_heap_other (by show w.heap.size ≠ w.heap.size + 1; omega)).trans hd)⟩

theorem byte_one (b c : UInt8) (t : Bs) : Lib.indexByte (b :: t) c = if b = c then 0 else if Lib.indexByte t c = -1 then -1 else Lib.indexByte t c + 1 := by
  show (if b == c then (0 : Int) else if Lib.indexByte t c == -1 then -1 else Lib.indexByte t c + 1) = _
  by_cases h : b = c <;> simp [h]
theorem index_cut {l : Bs} {c : UInt8} {i : Nat} (h : Lib.indexByte l c = (i : Int)) : cutAt c l = l.take i :: cutAt c (l.drop (i + 1)) ∧ i < l.length := by
  induction l generalizing i with
  | nil => simp [Lib.indexByte] at h
  | cons b t ih =>
    rw [byte_one] at h
    by_cases hb : b = c
    · rw [if_pos hb] at h
      obtain rfl : i = 0 := by omega
      subst hb
      simp [cutAt]
    · rw [if_neg hb] at h
      by_cases hm : Lib.indexByte t c = -1
      · rw [if_pos hm] at h; omega
      · rw [if_neg hm] at h
        have hg := Lib.indexByte_ge t c
        obtain ⟨j, rfl⟩ : ∃ j, i = j + 1 := ⟨i - 1, by omega⟩
        obtain ⟨e1, e2⟩ := ih (i := j) (by omega)
        refine ⟨?_, by simp; omega⟩
        conv => lhs; unfold cutAt
        rw [if_neg (by simpa using hb), e1]
        rfl
theorem index_none {l : Bs} {c : UInt8} (h : Lib.indexByte l c = -1) : cutAt c l = [l] := by
  induction l with
  | nil => rfl
  | cons b t ih =>
    rw [byte_one] at h
    by_cases hb : b = c
    · rw [if_pos hb] at h; omega
    · rw [if_neg hb] at h
      by_cases hm : Lib.indexByte t c = -1
      · conv => lhs; unfold cutAt
        rw [if_neg (by simpa using hb), ih hm]
      · rw [if_neg hm] at h
        have hg := Lib.indexByte_ge t c
        omega

/-- The iterator's three cells lie as they lay. -/
def Keep3 (a b c : Nat) (W W' : World) : Prop := W'.heap[a]? = W.heap[a]? ∧ W'.heap[b]? = W.heap[b]? ∧ W'.heap[c]? = W.heap[c]?
theorem Keep3.trans {a b c : Nat} {X Y Z : World} (h : Keep3 a b c X Y) (k : Keep3 a b c Y Z) : Keep3 a b c X Z := ⟨k.1.trans h.1, k.2.1.trans h.2.1, k.2.2.trans h.2.2⟩
theorem Keep3.fr {a b c : Nat} {X Y : World} {F : Nat → Prop} (h : Fr F X Y) (ha : a < X.heap.size ∧ ¬ F a) (hb : b < X.heap.size ∧ ¬ F b) (hc : c < X.heap.size ∧ ¬ F c) : Keep3 a b c X Y := ⟨h.block a ha.1 ha.2, h.block b hb.1 hb.2, h.block c hc.1 hc.2⟩
def encL (x : Bs) : Array Value := #[.string (ba x)]

set_option maxRecDepth 100000 in
set_option maxHeartbeats 4000000 in
theorem split_in (F : Fence) (n : Nat) (hF : F = Fence.wide) (hn : 2 ≤ n) (l Bp Bt Bv : Nat) (t : Bs) (ht : t.length ≤ 131072) (J : List Bs → World → Prop)
    (hJ : ∀ pre W1 (y : ByteArray), J pre W1 → J pre (W1.setCell ⟨Bt, 0, none⟩ (.string y)))
    (hY : ∀ pre x suf W, J pre W → cutAt 10 t = pre ++ x :: suf → YieldAt F (n - 1) Tryd.prog l (encL x) W fun e W' => e = .returned (.bool true) ∧ J (pre ++ [x]) W' ∧ Keep3 Bp Bt Bv W W')
    (W : World) (hne1 : Bp ≠ Bt) (hne2 : Bv ≠ Bt)
    (hp : Blk W Bp 9 #[.string ⟨#[10]⟩]) (hs : Blk W Bt 9 #[.string (ba t)]) (hv : Blk W Bv 3 #[.int .i64 0]) (h0 : J [] W) :
    CallsIn F n Tryd.prog 126 #[.func (.yield l) #[] #[], .pointer (some ⟨Bp, 0, none⟩), .pointer (some ⟨Bt, 0, none⟩), .pointer (some ⟨Bv, 0, none⟩)] W fun e W' => (∃ v, e = .returned v) ∧ J (cutAt 10 t) W' := by
  subst hF
  refine callsIn_of_wp Tryd.func126 rfl trivial ?_ rfl
  simp only [Tryd.ntmps126, List.size_toArray, List.length_cons, List.length_nil, Nat.reduceAdd, Nat.reduceSub, Array.replicate_succ, Array.replicate_zero, List.push_toArray, List.append_toArray, List.nil_append, List.cons_append]
  have hp0 := hp.cell 0
  simp only [List.getElem?_toArray] at hp0
  gi_wp2
  clear hp0
  gi_loopw [7] (fun _ wr => ∃ (pre : List Bs) (rest : Bs), rest.length ≤ t.length ∧ Hid (cutAt 10 t = pre ++ cutAt 10 rest ∧ J pre wr ∧ Blk wr Bp 9 #[.string ⟨#[10]⟩] ∧ Blk wr Bt 9 #[.string (ba rest)] ∧ Blk wr Bv 3 #[.int .i64 0]))
    (fun _ wr => match wr.cell? ⟨Bt, 0, none⟩ with | some (.string r) => r.size | _ => 0)
  case atStart => exact ⟨[], t, Nat.le_refl _, rfl, h0, hp, hs, hv⟩
  case round =>
    obtain ⟨pre, rest, hrl, hP⟩ := hrel
    have c1 := hP.out.2.2.1.cell 0
    have c2 := hP.out.2.2.2.1.cell 0
    have c3 := hP.out.2.2.2.2.cell 0
    have f2 := hP.out.2.2.2.1.frozen 0
    simp only [List.getElem?_toArray] at c1 c2 c3
    gi_wp2_with fail
    refine ⟨trivial, fun _ => by omega, (callsIn_wide.2 (Tryd.strings_Index_one (ba rest) 10 wr)).mono ?_⟩
    rintro e w' ⟨rfl, hw⟩
    obtain rfl : wr = w' := hw.symm
    rw [ba_list]
    have hg := Lib.indexByte_ge rest 10
    obtain ⟨i, hi⟩ : ∃ i, Lib.indexByte rest 10 = i := ⟨_, rfl⟩
    rw [hi] at hg ⊢
    have HI := Lib.hid hi
    clear hi
    by_cases hneg : i = -1
    · subst hneg
      have HL := Lib.hid (index_none HI.out)
      have hx : cutAt 10 t = pre ++ rest :: [] := by rw [hP.out.1, HL.out]
      obtain ⟨fn, tmps, assign, body, hy, hR⟩ := hY pre rest [] wr hP.out.2.1 hx
      dsimp only [encL] at hy
      have HX := Lib.hid hx
      clear hx
      gi_wp2
      refine ⟨fun _ => by omega, hR.mono ?_⟩
      rintro e W3 ⟨rfl, hJ3, hk3⟩
      have HJ3 : Hid (J (cutAt 10 t) W3) := by unfold Hid; rw [HX.out]; exact hJ3
      clear hJ3
      gi_wp2
      go_end0
      exact ⟨⟨_, rfl⟩, HJ3.out⟩
    · obtain ⟨k, rfl⟩ : ∃ k : Nat, i = (k : Int) := ⟨i.toNat, by omega⟩
      have HL := Lib.hid (index_cut HI.out)
      have hx : cutAt 10 t = pre ++ rest.take k :: cutAt 10 (rest.drop (k + 1)) := by rw [hP.out.1, HL.out.1]
      obtain ⟨fn, tmps, assign, body, hy, hR⟩ := hY pre (rest.take k) _ wr hP.out.2.1 hx
      dsimp only [encL] at hy
      have hkl := HL.out.2
      have hsz : (ba rest).size = rest.length := rfl
      have he1 : (ba rest).extract 0 k = ba (rest.take k) := by
        apply ByteArray.ext
        apply Array.ext'
        rw [Lib.extract_data, ba_list]
        simp [ba]
      have he2 : (ba rest).extract (k + 1) rest.length = ba (rest.drop (k + 1)) := by
        apply ByteArray.ext
        apply Array.ext'
        rw [Lib.extract_data, ba_list, List.take_of_length_le (by simp)]
        simp [ba]
      have HX := Lib.hid hx
      clear hx
      gi_wp2
      refine ⟨fun _ => by omega, hR.mono ?_⟩
      rintro e W3 ⟨rfl, hJ3, hk3⟩
      have B1 : Hid (Blk W3 Bp 9 #[.string ⟨#[10]⟩]) := hk3.1.trans hP.out.2.2.1
      have B2 : Hid (Blk W3 Bt 9 #[.string (ba rest)]) := hk3.2.1.trans hP.out.2.2.2.1
      have B3 : Hid (Blk W3 Bv 3 #[.int .i64 0]) := hk3.2.2.trans hP.out.2.2.2.2
      have d1 := B1.out.cell 0
      have d2 := B2.out.cell 0
      have d3 := B3.out.cell 0
      have e2 := B2.out.frozen 0
      simp only [List.getElem?_toArray] at d1 d2 d3
      have HJ3 := Lib.hid hJ3
      have HE2 := Lib.hid he2
      have HC2 := Lib.hid c2
      clear hJ3 c1 c2 c3 f2 hP he1
      gi_wp2
      go_roundw
      case rel => exact ⟨pre ++ [rest.take k], rest.drop (k + 1), by simp; omega, by rw [HX.out]; simp, hJ _ _ _ HJ3.out, B1.out.far hne1 _, B2.out.set_ 0 _, B3.out.far hne2 _⟩
      case measure =>
        have m1 : (W3.setCell ⟨Bt, 0, none⟩ (.string (ba (rest.drop (k + 1))))).cell? ⟨Bt, 0, none⟩ = some (.string (ba (rest.drop (k + 1)))) := (B2.out.set_ 0 _).cell 0
        rw [m1, HC2.out]
        show (rest.drop (k + 1)).length < rest.length
        rw [List.length_drop]
        omega

theorem split_cells (n : Nat) (hn : 2 ≤ n) (Bp Bt Bv : Nat) (t : Bs) (ht : t.length ≤ 131072) (w : World) (hne1 : Bp ≠ Bt) (hne2 : Bv ≠ Bt)
    (hp : Blk w Bp 9 #[.string ⟨#[10]⟩]) (hs : Blk w Bt 9 #[.string (ba t)]) (hv : Blk w Bv 3 #[.int .i64 0]) :
    SeqCell Fence.wide n Tryd.prog 126 #[.pointer (some ⟨Bp, 0, none⟩), .pointer (some ⟨Bt, 0, none⟩), .pointer (some ⟨Bv, 0, none⟩)] encL (Keep3 Bp Bt Bv) Bt (cutAt 10 t) w := fun l J W hW hJ hY h0 =>
  split_in Fence.wide n rfl hn l Bp Bt Bv t ht J hJ hY W hne1 hne2 (hp.below hW hp.lt) (hs.below hW hs.lt) (hv.below hW hv.lt) h0

set_option maxRecDepth 100000 in
theorem splitSeq_any (s p : ByteArray) (w : World) :
    Calls Tryd.prog 61 #[.string s, .string p] w fun e w' => e = .returned (.func (.func 126) #[] #[.pointer (some ⟨w.heap.size + 1, 0, none⟩), .pointer (some ⟨w.heap.size, 0, none⟩), .pointer (some ⟨w.heap.size + 2, 0, none⟩)]) ∧
      w' = ((w.alloc (.cells #[.string s] 9)).alloc (.cells #[.string p] 9)).alloc (.cells #[.int .i64 0] 3) := by
  have h : Calls Tryd.prog 91 #[.string s, .string p, .int .i64 0] w fun e w' => e = .returned (.func (.func 126) #[] #[.pointer (some ⟨w.heap.size + 1, 0, none⟩), .pointer (some ⟨w.heap.size, 0, none⟩), .pointer (some ⟨w.heap.size + 2, 0, none⟩)]) ∧
      w' = ((w.alloc (.cells #[.string s] 9)).alloc (.cells #[.string p] 9)).alloc (.cells #[.int .i64 0] 3) := by
    go_enter Tryd.func91, Tryd.ntmps91
    go_wp2_with fail
    go_ret
    exact ⟨rfl, rfl⟩
  go_enter Tryd.func61, Tryd.ntmps61
  go_wp2_with fail
  refine h.mono ?_
  rintro e w' ⟨rfl, rfl⟩
  go_wp2_with fail
  go_ret
  exact ⟨rfl, rfl⟩

end Go.Proofs.YtbikplckehbcnaaDoor
