/- tome.Parse: the walk. Printed by gen_parse.py. -/
import Derived.Test.YtbikplckehbcnaaDoorTmQ
import Derived.Deep.LoopGhost
import Derived.Deep.RegionLaw
import Derived.Maps.AppendAt
set_option linter.unusedVariables false
set_option linter.unusedSimpArgs false
namespace Go.Proofs.YtbikplckehbcnaaDoor
open Go Go.RowKit

/-- The numbers fs lie in a row of the call's own. -/
def OwnI (w : World) (base : Nat) (v : Value) (fs : List Int) : Prop := w.ownsRow base 3 1 v fs.length (fs.map (Value.int .i64))
theorem OwnI.nil (w : World) (base : Nat) : OwnI w base (.slice none 0 0) [] := World.ownsRow_nil _ _ _ _
theorem OwnI.ints {w : World} {base : Nat} {v : Value} {fs : List Int} (h : OwnI w base v fs) : Ints w v fs := Ints.own h
/-- What Parse leaves. -/
def ParsePost (l : Bs) (w : World) (e : Ending) (w' : World) : Prop :=
  (∃ v, e = .returned (.tuple #[.agg (stC ((parseP (cutAt 32 l)).getD noStep) v), .int .i64 (parE (parseP (cutAt 32 l)))]) ∧ OwnI w'  w.heap.size v ((parseP (cutAt 32 l)).getD noStep).fates) ∧ Below w.heap.size w w'
theorem post_bad {l : Bs} {w w' : World} {s : StepP} {r : Rd} (h : parseR (cutAt 32 l) = (s, r)) (hr : (r.2 || !r.1.isEmpty) = true) (hb : Below w.heap.size w w') : ParsePost l w (.returned (.tuple #[.agg #[.int .i64 0, .int .i64 0, .bool false, .int .i64 0, .slice none 0 0, .int .i64 0, .int .i64 0, .int .i64 0, .string ⟨#[]⟩], .int .i64 50])) w' := by
  have e : parseP (cutAt 32 l) = none := by unfold parseP; rw [h]; simp only [hr, if_true]
  refine ⟨⟨.slice none 0 0, ?_, ?_⟩, hb⟩
  · rw [e]; rfl
  · rw [e]; exact OwnI.nil _ _
theorem post_ok {l : Bs} {w w' : World} {s : StepP} (h : parseR (cutAt 32 l) = (s, ([], false))) (v : Value) (hv : OwnI w' w.heap.size v s.fates) (hb : Below w.heap.size w w') : ParsePost l w (.returned (.tuple #[.agg (stC s v), .int .i64 0])) w' := by
  have e : parseP (cutAt 32 l) = some s := by unfold parseP; rw [h]; rfl
  refine ⟨⟨v, ?_, ?_⟩, hb⟩
  · rw [e]; rfl
  · rw [e]; exact hv
theorem rd_of (r : Rd) : r = ([], false) ∨ (∃ l, r = (l, true)) ∨ ∃ y ys, r = (y :: ys, false) := by
  obtain ⟨l, b⟩ := r
  cases b with
  | true => exact .inr (.inl ⟨l, rfl⟩)
  | false => cases l with
    | nil => exact .inl rfl
    | cons y ys => exact .inr (.inr ⟨y, ys, rfl⟩)

theorem cut_count (c : UInt8) : ∀ l : Bs, (cutAt c l).length ≤ l.length + 1
  | [] => by simp [cutAt]
  | b :: t => by
    have ih := cut_count c t
    unfold cutAt
    split
    · simp; omega
    · split
      · simp
      · rename_i h r hr; rw [hr] at ih; simp at ih ⊢; omega
theorem word_len_le (r : Rd) : (wordR r).2.1.length ≤ r.1.length := by
  obtain ⟨l, b⟩ := r
  cases l <;> simp [wordR]
theorem num_len_le (r : Rd) : (numR r).2.1.length ≤ r.1.length := word_len_le r
theorem num_step (y : Bs) (ys : List Bs) (b : Bool) : numR (y :: ys, b) = (atoiV y, (ys, b || !numOk y)) := rfl

theorem int_info : (Tryd.prog.info? 3).map (fun i => (i.zero, i.size, i.bytes)) = some (some (.int .i64 0), 1, 8) := by kernel_rfl
set_option maxRecDepth 100000 in
theorem step_appI {ops : Array Oper} {o : Oper} {a : Act} {W : World} {K : Act → World → Prop} {Q : Exit → Act → World → Prop} {E : Prop} (hgd : o.guard = none) (s x : Operand)
    (ho : o.op = .call { callee := .builtin .append, args := #[s, x], argTypes := #[30, 30] })
    (lo : Nat) (v : Value) (fs : List Int) (n : Int) (hs : a.eval s = v) (hown : W.ownsRow lo 3 1 v fs.length (fs.map (Value.int .i64))) (ad : Addr) (hx : a.eval x = .slice (some ad) 1 1)
    (hc : W.cell? ad = some (.int .i64 n)) (hl : fs.length ≤ 1048576) (hlo : lo ≤ W.heap.size)
    (h : ∀ (A3 : Option Addr) (c3 : Nat) (w' : World), w'.ownsRow lo 3 1 (.slice A3 (fs.length + 1) c3) (fs ++ [n]).length ((fs ++ [n]).map (Value.int .i64)) → W.grownBy w' v.ownBlock → K (a.put o.dst (.slice A3 (fs.length + 1) c3)) w') :
    if Region.wanted o (yielded ops a.tmps) = true then Oper.wp Tryd.prog o a W K Q else E := by
  rw [if_pos (by simp [Region.wanted, hgd])]
  obtain ⟨i0, hi, hz⟩ := Option.map_eq_some_iff.1 int_info
  simp only [Prod.mk.injEq] at hz
  obtain ⟨v', w', hr, h2, h3, _, h5⟩ := run_append_own_at (P := Tryd.prog) W lo 30 o.type 3 i0 (.int .i64 0) 1 8 Tryd.underlying30 hi hz.1 hz.2.1 hz.2.2 rfl (by omega) v fs.length (fs.map (Value.int .i64)) hown ad 1 1 [.int .i64 n] rfl
    (fun j u hu => by
      match j, hu with
      | 0, hu => simp at hu; subst hu; rw [show ad.add 0 = ad by simp [Addr.add]]; exact hc) (by intro u hu; simp at hu; subst hu; rfl) (by simp only [maxLen]; omega) (by omega) hlo
  obtain ⟨A3, c3, rfl⟩ := own_slice h2
  unfold Oper.wp execOp
  simp only [ho, resolve, invoke, builtin, Sem.run_bind, Sem.run_pure, Result.andThen_ok, List.map_toArray, List.map_cons, List.map_nil, hs, hx, hr]
  exact h A3 c3 w' (by rw [List.length_append, List.map_append]; exact h2) h3

theorem ints_fr {w w' : World} {v : Value} {fs : List Int} {b0 : Nat} {t : TypeId} {cs : Array Value} {base : Nat} (hf : Fr (One b0) w w') (hb : Blk w b0 t cs) (ht : t ≠ 3) (ho : w.ownsRow base 3 1 v fs.length (fs.map (Value.int .i64))) : OwnI w' base v fs :=
  own_fr ho hf (fun g hg e => own_blk_ne ho hb (fun e2 => ht e2.symm) (by rw [hg, show g = b0 from e]))

set_option maxRecDepth 100000 in
set_option maxHeartbeats 16000000 in
theorem parse_any (l : Bs) (hl : l.length ≤ 131072) (w : World) (hT : Tabs w) :
    Calls Tryd.prog 23 #[.string (ba l)] w (ParsePost l w) := by
  have HT := Lib.hid hT
  have h8 := hT.size
  clear hT
  go_enter Tryd.func23, Tryd.ntmps23
  go_wp2_with fail
  refine (split_any l hl _ (HT.out.below h8 ((Below.refl _ _).alloc (Nat.le_refl _) _))).mono ?_
  rintro e w1 ⟨rfl, rfl⟩
  have HZ := Lib.hid ((Blk.new w 60 #[.int .i64 0, .int .i64 0, .bool false, .int .i64 0, .slice none 0 0, .int .i64 0, .int .i64 0, .int .i64 0, .string ⟨#[]⟩]).alloc (.cells ((cutAt 32 l).map fun x => Value.string (ba x)).toArray 9))
  have HWD := Lib.hid (Blk.new (w.alloc (.cells #[.int .i64 0, .int .i64 0, .bool false, .int .i64 0, .slice none 0 0, .int .i64 0, .int .i64 0, .int .i64 0, .string ⟨#[]⟩] 60)) 9 ((cutAt 32 l).map fun x => Value.string (ba x)).toArray)
  have HB := Lib.hid (((Below.refl w.heap.size w).alloc (Nat.le_refl _) (.cells #[.int .i64 0, .int .i64 0, .bool false, .int .i64 0, .slice none 0 0, .int .i64 0, .int .i64 0, .int .i64 0, .string ⟨#[]⟩] 60)).alloc (by simp) (.cells ((cutAt 32 l).map fun x => Value.string (ba x)).toArray 9))
  have hsz : ((w.alloc (.cells #[.int .i64 0, .int .i64 0, .bool false, .int .i64 0, .slice none 0 0, .int .i64 0, .int .i64 0, .int .i64 0, .string ⟨#[]⟩] 60)).alloc (.cells ((cutAt 32 l).map fun x => Value.string (ba x)).toArray 9)).heap.size = w.heap.size + 2 := by simp
  have hsz1 : (w.alloc (.cells #[.int .i64 0, .int .i64 0, .bool false, .int .i64 0, .slice none 0 0, .int .i64 0, .int .i64 0, .int .i64 0, .string ⟨#[]⟩] 60)).heap.size = w.heap.size + 1 := by simp
  rw [hsz1] at HWD
  have HSZ := Lib.hid hsz
  rw [hsz1]
  clear hsz hsz1
  revert HZ HWD HB HSZ
  generalize (w.alloc (.cells #[.int .i64 0, .int .i64 0, .bool false, .int .i64 0, .slice none 0 0, .int .i64 0, .int .i64 0, .int .i64 0, .string ⟨#[]⟩] 60)).alloc (.cells ((cutAt 32 l).map fun x => Value.string (ba x)).toArray 9) = W1
  intro HZ HWD HB HSZ
  go_wp2_with fail
  have HR : Hid (RdAt (W1.alloc (.cells #[.slice (some ⟨w.heap.size + 1, 0, none⟩) (cutAt 32 l).length (cutAt 32 l).length, .bool false] 100)) W1.heap.size (cutAt 32 l, false)) := by
    refine ⟨_, Blk.new _ _ _, fun _ => ⟨_, 0, _, rfl, HWD.out.alloc _, fun j x hx => ?_⟩, fun x hx => Nat.le_trans (cut_len 32 l x hx) hl⟩
    rw [Nat.zero_add, List.getElem?_toArray, List.getElem?_map, hx]
    rfl
  refine (rword_any _ _ _ HR.out).mono ?_
  rintro e w2 ⟨rfl, h2, f2⟩
  have HB2 := Lib.hid (HB.out.trans ((((Fr.refl (One W1.heap.size) W1).alloc _).trans f2 (Sub.refl _ _)).toBelow (B := w.heap.size) HB.out.size (fun k e => by have : k = W1.heap.size := e; have := HSZ.out; omega)))
  have HZ2 := Lib.hid ((HZ.out.alloc (.cells #[.slice (some ⟨w.heap.size + 1, 0, none⟩) (cutAt 32 l).length (cutAt 32 l).length, .bool false] 100)).fr f2 (fun e => by have : w.heap.size = W1.heap.size := e; have := HSZ.out; omega))
  have H2 := Lib.hid h2
  have T2 := Lib.hid (HT.out.below h8 HB2.out)
  obtain ⟨x, hx⟩ : ∃ x, (wordR (cutAt 32 l, false)).1 = x := ⟨_, rfl⟩
  obtain ⟨q, hq⟩ : ∃ q, (wordR (cutAt 32 l, false)).2 = q := ⟨_, rfl⟩
  rw [hx]
  rw [hq] at H2
  have HXQ := Lib.hid (And.intro hx hq)
  have HQL : Hid (q.1.length ≤ 131073) := by unfold Hid; rw [← hq]; exact Nat.le_trans (word_len_le _) (Nat.le_trans (cut_count 32 l) (by omega))
  clear h2 f2 hx hq HR HZ HWD HB
  go_wp2_with fail
  refine (kindOf_any stepT_is x _ T2.out).mono ?_
  rintro e w3 ⟨rfl, b3⟩
  have hk := kindP_le stepW x
  rw [show stepW.length = 10 from rfl] at hk
  have HKX : Hid (∃ k, kindP stepW x = k) := ⟨_, rfl⟩
  obtain ⟨k, hkx⟩ := HKX.out
  rw [hkx] at hk ⊢
  have HPR : Hid (parseR (cutAt 32 l) = (
      if k = 1 then (⟨k, (numR q).1, false, 0, [], (callR (numR q).2).1⟩, (callR (numR q).2).2)
      else if k = 2 ∨ k = 3 ∨ k = 4 then (⟨k, (numR (wayR q).2).1, (wayR q).1, (numR (numR (wayR q).2).2).1, [], noCall⟩, (numR (numR (wayR q).2).2).2)
      else if k = 5 ∨ k = 8 then (⟨k, (numR q).1, false, 0, [], noCall⟩, (numR q).2)
      else if k = 6 then (⟨k, (numR q).1, false, (numR (numR q).2).1, [], noCall⟩, (numR (numR q).2).2)
      else if k = 7 then (⟨k, (numR q).1, false, (numR (numR q).2).1, (fatesR (numR (numR q).2).2.1 (numR (numR q).2).2.2).1, noCall⟩, ([], (fatesR (numR (numR q).2).2.1 (numR (numR q).2).2.2).2))
      else if k = 9 ∨ k = 10 then (⟨k, 0, false, 0, [], noCall⟩, q)
      else (⟨k, 0, false, 0, [], noCall⟩, (q.1, true)))) := by
    unfold Hid
    rw [← hkx, ← HXQ.out.1, ← HXQ.out.2]
    rfl
  have S3 : Hid (∀ v, PSt w (w3.alloc (.cells #[v, .int .i64 0, .bool false, .int .i64 0, .slice none 0 0, .int .i64 0, .int .i64 0, .int .i64 0, .string ⟨#[]⟩] 60)) W1.heap.size w.heap.size w3.heap.size q #[v, .int .i64 0, .bool false, .int .i64 0, .slice none 0 0, .int .i64 0, .int .i64 0, .int .i64 0, .string ⟨#[]⟩]) := by
    intro v
    have hs1 := HSZ.out
    have hs2 := H2.out.lt
    have hs3 := b3.size
    exact ⟨(H2.out.below b3).alloc _, (HZ2.out.below b3 HZ2.out.lt).alloc _, Blk.new _ _ _, (HB2.out.trans (b3.mono HB2.out.size)).alloc (Nat.le_trans HB2.out.size b3.size) _, (T2.out.below T2.out.size b3).below (B := w3.heap.size) (by have := T2.out.size; omega) ((Below.refl _ _).alloc (Nat.le_refl _) _), h8, Nat.le_refl _, by omega, by omega, by omega, by omega, by omega⟩
  have HPW : Hid (w.heap.size < W1.heap.size) := by have := HSZ.out; unfold Hid; omega
  clear b3 HZ2 H2 T2 HB2 HXQ HSZ HKX hkx
  generalize W1.heap.size = p at *
  go_upto_region 3 with fail
  have S4 := Lib.hid (S3.out (.int .i64 (k : Int)))
  clear S3
  revert S4
  generalize w3.alloc (.cells #[.int .i64 (k : Int), .int .i64 0, .bool false, .int .i64 0, .slice none 0 0, .int .i64 0, .int .i64 0, .int .i64 0, .string ⟨#[]⟩] 60) = W4
  generalize w3.heap.size = bx
  intro S4
  have hn1 : ¬ p = bx := S4.out.ne2
  have hn2 : ¬ p = w.heap.size := S4.out.ne1
  have hn3 : ¬ bx = w.heap.size := fun e => S4.out.ne e.symm
  have hn4 : ¬ w.heap.size = bx := S4.out.ne
  have hn5 : ¬ bx = p := fun e => S4.out.ne2 e.symm
  have hkk : k = 0 ∨ k = 1 ∨ k = 2 ∨ k = 3 ∨ k = 4 ∨ k = 5 ∨ k = 6 ∨ k = 7 ∨ k = 8 ∨ k = 9 ∨ k = 10 := by omega
  clear hk
  rcases hkk with rfl | rfl | rfl | rfl | rfl | rfl | rfl | rfl | rfl | rfl | rfl
  · have HE : Hid (parseR (cutAt 32 l) = (⟨0, 0, false, 0, [], noCall⟩, (q.1, true))) := by unfold Hid; rw [HPR.out]; rfl
    clear HPR
    have T5 := Lib.hid (S4.out.bad true)
    obtain ⟨⟨A0, c0⟩, c1, f1, _⟩ := S4.out.at_
    have x0 := S4.out.x.cell 0
    have zc0 := S4.out.z.cell 0
    have zf0 := S4.out.z.frozen 0
    have zc1 := S4.out.z.cell 1
    have zf1 := S4.out.z.frozen 1
    have zc2 := S4.out.z.cell 2
    have zf2 := S4.out.z.frozen 2
    have zc3 := S4.out.z.cell 3
    have zf3 := S4.out.z.frozen 3
    have zc4 := S4.out.z.cell 4
    have zf4 := S4.out.z.frozen 4
    have zc5 := S4.out.z.cell 5
    have zf5 := S4.out.z.frozen 5
    have zc6 := S4.out.z.cell 6
    have zf6 := S4.out.z.frozen 6
    have zc7 := S4.out.z.cell 7
    have zf7 := S4.out.z.frozen 7
    have zc8 := S4.out.z.cell 8
    have zf8 := S4.out.z.frozen 8
    simp only [List.getElem?_toArray] at x0 zc0 zc1 zc2 zc3 zc4 zc5 zc6 zc7 zc8
    have HD := Lib.hid (T5.out.lay (.int .i64 0) (.int .i64 0) (.bool false) (.int .i64 0) (.slice none 0 0) (.int .i64 0) (.int .i64 0) (.int .i64 0) (.string ⟨#[]⟩))
    go_wp2_with fail
    refine bodyPost_ret (step_results rfl _ _ _ _ _ _ _ _ _ _ _ _ _ _ rfl rfl HD.out.1) rfl ?_
    exact post_bad HE.out rfl HD.out.2.1
  · have HE : Hid (parseR (cutAt 32 l) = (⟨1, (numR q).1, false, 0, [], (callR (numR q).2).1⟩, (callR (numR q).2).2)) := by unfold Hid; rw [HPR.out]; rfl
    clear HPR
    obtain ⟨⟨A0, c0⟩, c1, f1, _⟩ := S4.out.at_
    have x0 := S4.out.x.cell 0
    simp only [List.getElem?_toArray] at x0
    go_wp2_with fail
    refine (rnum_any _ p _ S4.out.rd S4.out.tabs S4.out.h8p).mono ?_
    rintro e w5 ⟨rfl, h5, f5⟩
    have S5 := Lib.hid (S4.out.step h5 f5)
    clear h5 f5
    clear c0 c1 f1 x0
    obtain ⟨n5, hn⟩ : ∃ n5, (numR q).1 = n5 := ⟨_, rfl⟩
    rw [hn]
    rw [hn] at HE
    clear hn
    obtain ⟨r5, hr⟩ : ∃ r5, (numR q).2 = r5 := ⟨_, rfl⟩
    rw [hr] at HE S5
    clear hr
    have T5 : Hid (PSt w (w5.setCell ⟨bx, 1, none⟩ (.int .i64 n5)) p w.heap.size bx r5 #[.int .i64 1, .int .i64 n5, .bool false, .int .i64 0, .slice none 0 0, .int .i64 0, .int .i64 0, .int .i64 0, .string ⟨#[]⟩]) := (S5.out.set 1 (.int .i64 n5))
    obtain ⟨⟨A0, c0⟩, c1, f1, _⟩ := S5.out.at_
    have x0 := S5.out.x.cell 0
    have x1 := S5.out.x.cell 1
    have xf1 := S5.out.x.frozen 1
    simp only [List.getElem?_toArray] at x0 x1
    go_wp2_with fail
    refine (rcall_any _ p _ T5.out.rd T5.out.tabs T5.out.h8p).mono ?_
    rintro e w6 ⟨rfl, h6, f6⟩
    have S6 := Lib.hid (T5.out.step h6 f6)
    clear h6 f6
    clear c0 c1 f1 x0 x1 xf1
    obtain ⟨n6, hn⟩ : ∃ n6, (callR r5).1 = n6 := ⟨_, rfl⟩
    rw [hn]
    rw [hn] at HE
    clear hn
    obtain ⟨r6, hr⟩ : ∃ r6, (callR r5).2 = r6 := ⟨_, rfl⟩
    rw [hr] at HE S6
    clear hr
    have T6 : Hid (PSt w ((((w6.setCell ⟨bx, 5, none⟩ (.int .i64 n6.kind)).setCell ⟨bx, 6, none⟩ (.int .i64 n6.page)).setCell ⟨bx, 7, none⟩ (.int .i64 n6.slot)).setCell ⟨bx, 8, none⟩ (.string (ba n6.data))) p w.heap.size bx r6 #[.int .i64 1, .int .i64 n5, .bool false, .int .i64 0, .slice none 0 0, .int .i64 n6.kind, .int .i64 n6.page, .int .i64 n6.slot, .string (ba n6.data)]) := ((((S6.out.set 5 (.int .i64 n6.kind)).set 6 (.int .i64 n6.page)).set 7 (.int .i64 n6.slot)).set 8 (.string (ba n6.data)))
    rcases rd_of r6 with rfl | ⟨l9, rfl⟩ | ⟨y9, ys9, rfl⟩
    · obtain ⟨⟨A0, c0⟩, c1, f1, _⟩ := S6.out.at_
      have x0 := S6.out.x.cell 0
      have x5 := S6.out.x.cell 5
      have x6 := S6.out.x.cell 6
      have x7 := S6.out.x.cell 7
      have x8 := S6.out.x.cell 8
      have xf5 := S6.out.x.frozen 5
      have xf6 := S6.out.x.frozen 6
      have xf7 := S6.out.x.frozen 7
      have xf8 := S6.out.x.frozen 8
      have zc0 := S6.out.z.cell 0
      have zf0 := S6.out.z.frozen 0
      have zc1 := S6.out.z.cell 1
      have zf1 := S6.out.z.frozen 1
      have zc2 := S6.out.z.cell 2
      have zf2 := S6.out.z.frozen 2
      have zc3 := S6.out.z.cell 3
      have zf3 := S6.out.z.frozen 3
      have zc4 := S6.out.z.cell 4
      have zf4 := S6.out.z.frozen 4
      have zc5 := S6.out.z.cell 5
      have zf5 := S6.out.z.frozen 5
      have zc6 := S6.out.z.cell 6
      have zf6 := S6.out.z.frozen 6
      have zc7 := S6.out.z.cell 7
      have zf7 := S6.out.z.frozen 7
      have zc8 := S6.out.z.cell 8
      have zf8 := S6.out.z.frozen 8
      simp only [List.getElem?_toArray] at x0 x5 x6 x7 x8 zc0 zc1 zc2 zc3 zc4 zc5 zc6 zc7 zc8
      unfold clC
      have HD := Lib.hid (T6.out.lay (.int .i64 1) (.int .i64 n5) (.bool false) (.int .i64 0) (.slice none 0 0) (.int .i64 n6.kind) (.int .i64 n6.page) (.int .i64 n6.slot) (.string (ba n6.data)))
      have hld := step_load _ _ _ _ _ _ _ _ _ _ _ _ T6.out.x
      go_wp2_with fail
      refine bodyPost_ret (step_results rfl _ _ _ _ _ _ _ _ _ _ _ _ _ _ rfl rfl HD.out.1) rfl ?_
      exact post_ok HE.out (.slice none 0 0) (OwnI.nil _ _) HD.out.2.1
    · obtain ⟨⟨A0, c0⟩, c1, f1, _⟩ := S6.out.at_
      have x0 := S6.out.x.cell 0
      have x5 := S6.out.x.cell 5
      have x6 := S6.out.x.cell 6
      have x7 := S6.out.x.cell 7
      have x8 := S6.out.x.cell 8
      have xf5 := S6.out.x.frozen 5
      have xf6 := S6.out.x.frozen 6
      have xf7 := S6.out.x.frozen 7
      have xf8 := S6.out.x.frozen 8
      have zc0 := S6.out.z.cell 0
      have zf0 := S6.out.z.frozen 0
      have zc1 := S6.out.z.cell 1
      have zf1 := S6.out.z.frozen 1
      have zc2 := S6.out.z.cell 2
      have zf2 := S6.out.z.frozen 2
      have zc3 := S6.out.z.cell 3
      have zf3 := S6.out.z.frozen 3
      have zc4 := S6.out.z.cell 4
      have zf4 := S6.out.z.frozen 4
      have zc5 := S6.out.z.cell 5
      have zf5 := S6.out.z.frozen 5
      have zc6 := S6.out.z.cell 6
      have zf6 := S6.out.z.frozen 6
      have zc7 := S6.out.z.cell 7
      have zf7 := S6.out.z.frozen 7
      have zc8 := S6.out.z.cell 8
      have zf8 := S6.out.z.frozen 8
      simp only [List.getElem?_toArray] at x0 x5 x6 x7 x8 zc0 zc1 zc2 zc3 zc4 zc5 zc6 zc7 zc8
      unfold clC
      have HD := Lib.hid (T6.out.lay (.int .i64 0) (.int .i64 0) (.bool false) (.int .i64 0) (.slice none 0 0) (.int .i64 0) (.int .i64 0) (.int .i64 0) (.string ⟨#[]⟩))
      skip
      go_wp2_with fail
      refine bodyPost_ret (step_results rfl _ _ _ _ _ _ _ _ _ _ _ _ _ _ rfl rfl HD.out.1) rfl ?_
      exact post_bad HE.out rfl HD.out.2.1
    · obtain ⟨⟨A0, c0⟩, c1, f1, _⟩ := S6.out.at_
      have x0 := S6.out.x.cell 0
      have x5 := S6.out.x.cell 5
      have x6 := S6.out.x.cell 6
      have x7 := S6.out.x.cell 7
      have x8 := S6.out.x.cell 8
      have xf5 := S6.out.x.frozen 5
      have xf6 := S6.out.x.frozen 6
      have xf7 := S6.out.x.frozen 7
      have xf8 := S6.out.x.frozen 8
      have zc0 := S6.out.z.cell 0
      have zf0 := S6.out.z.frozen 0
      have zc1 := S6.out.z.cell 1
      have zf1 := S6.out.z.frozen 1
      have zc2 := S6.out.z.cell 2
      have zf2 := S6.out.z.frozen 2
      have zc3 := S6.out.z.cell 3
      have zf3 := S6.out.z.frozen 3
      have zc4 := S6.out.z.cell 4
      have zf4 := S6.out.z.frozen 4
      have zc5 := S6.out.z.cell 5
      have zf5 := S6.out.z.frozen 5
      have zc6 := S6.out.z.cell 6
      have zf6 := S6.out.z.frozen 6
      have zc7 := S6.out.z.cell 7
      have zf7 := S6.out.z.frozen 7
      have zc8 := S6.out.z.cell 8
      have zf8 := S6.out.z.frozen 8
      simp only [List.getElem?_toArray] at x0 x5 x6 x7 x8 zc0 zc1 zc2 zc3 zc4 zc5 zc6 zc7 zc8
      unfold clC
      have HD := Lib.hid (T6.out.lay (.int .i64 0) (.int .i64 0) (.bool false) (.int .i64 0) (.slice none 0 0) (.int .i64 0) (.int .i64 0) (.int .i64 0) (.string ⟨#[]⟩))
      simp only [List.length_cons] at c0
      go_wp2_with fail
      refine bodyPost_ret (step_results rfl _ _ _ _ _ _ _ _ _ _ _ _ _ _ rfl rfl HD.out.1) rfl ?_
      exact post_bad HE.out rfl HD.out.2.1
  · have HE : Hid (parseR (cutAt 32 l) = (⟨2, (numR (wayR q).2).1, (wayR q).1, (numR (numR (wayR q).2).2).1, [], noCall⟩, (numR (numR (wayR q).2).2).2)) := by unfold Hid; rw [HPR.out]; rfl
    clear HPR
    obtain ⟨⟨A0, c0⟩, c1, f1, _⟩ := S4.out.at_
    have x0 := S4.out.x.cell 0
    simp only [List.getElem?_toArray] at x0
    go_wp2_with fail
    refine (rway_any _ p _ S4.out.rd ).mono ?_
    rintro e w5 ⟨rfl, h5, f5⟩
    have S5 := Lib.hid (S4.out.step h5 f5)
    clear h5 f5
    clear c0 c1 f1 x0
    obtain ⟨n5, hn⟩ : ∃ n5, (wayR q).1 = n5 := ⟨_, rfl⟩
    rw [hn]
    rw [hn] at HE
    clear hn
    obtain ⟨r5, hr⟩ : ∃ r5, (wayR q).2 = r5 := ⟨_, rfl⟩
    rw [hr] at HE S5
    clear hr
    have T5 : Hid (PSt w (w5.setCell ⟨bx, 2, none⟩ (.bool n5)) p w.heap.size bx r5 #[.int .i64 2, .int .i64 0, .bool n5, .int .i64 0, .slice none 0 0, .int .i64 0, .int .i64 0, .int .i64 0, .string ⟨#[]⟩]) := (S5.out.set 2 (.bool n5))
    obtain ⟨⟨A0, c0⟩, c1, f1, _⟩ := S5.out.at_
    have x0 := S5.out.x.cell 0
    have x2 := S5.out.x.cell 2
    have xf2 := S5.out.x.frozen 2
    simp only [List.getElem?_toArray] at x0 x2
    go_wp2_with fail
    refine (rnum_any _ p _ T5.out.rd T5.out.tabs T5.out.h8p).mono ?_
    rintro e w6 ⟨rfl, h6, f6⟩
    have S6 := Lib.hid (T5.out.step h6 f6)
    clear h6 f6
    clear c0 c1 f1 x0 x2 xf2
    obtain ⟨n6, hn⟩ : ∃ n6, (numR r5).1 = n6 := ⟨_, rfl⟩
    rw [hn]
    rw [hn] at HE
    clear hn
    obtain ⟨r6, hr⟩ : ∃ r6, (numR r5).2 = r6 := ⟨_, rfl⟩
    rw [hr] at HE S6
    clear hr
    have T6 : Hid (PSt w (w6.setCell ⟨bx, 1, none⟩ (.int .i64 n6)) p w.heap.size bx r6 #[.int .i64 2, .int .i64 n6, .bool n5, .int .i64 0, .slice none 0 0, .int .i64 0, .int .i64 0, .int .i64 0, .string ⟨#[]⟩]) := (S6.out.set 1 (.int .i64 n6))
    obtain ⟨⟨A0, c0⟩, c1, f1, _⟩ := S6.out.at_
    have x0 := S6.out.x.cell 0
    have x1 := S6.out.x.cell 1
    have xf1 := S6.out.x.frozen 1
    simp only [List.getElem?_toArray] at x0 x1
    go_wp2_with fail
    refine (rnum_any _ p _ T6.out.rd T6.out.tabs T6.out.h8p).mono ?_
    rintro e w7 ⟨rfl, h7, f7⟩
    have S7 := Lib.hid (T6.out.step h7 f7)
    clear h7 f7
    clear c0 c1 f1 x0 x1 xf1
    obtain ⟨n7, hn⟩ : ∃ n7, (numR r6).1 = n7 := ⟨_, rfl⟩
    rw [hn]
    rw [hn] at HE
    clear hn
    obtain ⟨r7, hr⟩ : ∃ r7, (numR r6).2 = r7 := ⟨_, rfl⟩
    rw [hr] at HE S7
    clear hr
    have T7 : Hid (PSt w (w7.setCell ⟨bx, 3, none⟩ (.int .i64 n7)) p w.heap.size bx r7 #[.int .i64 2, .int .i64 n6, .bool n5, .int .i64 n7, .slice none 0 0, .int .i64 0, .int .i64 0, .int .i64 0, .string ⟨#[]⟩]) := (S7.out.set 3 (.int .i64 n7))
    rcases rd_of r7 with rfl | ⟨l9, rfl⟩ | ⟨y9, ys9, rfl⟩
    · obtain ⟨⟨A0, c0⟩, c1, f1, _⟩ := S7.out.at_
      have x0 := S7.out.x.cell 0
      have x3 := S7.out.x.cell 3
      have xf3 := S7.out.x.frozen 3
      have zc0 := S7.out.z.cell 0
      have zf0 := S7.out.z.frozen 0
      have zc1 := S7.out.z.cell 1
      have zf1 := S7.out.z.frozen 1
      have zc2 := S7.out.z.cell 2
      have zf2 := S7.out.z.frozen 2
      have zc3 := S7.out.z.cell 3
      have zf3 := S7.out.z.frozen 3
      have zc4 := S7.out.z.cell 4
      have zf4 := S7.out.z.frozen 4
      have zc5 := S7.out.z.cell 5
      have zf5 := S7.out.z.frozen 5
      have zc6 := S7.out.z.cell 6
      have zf6 := S7.out.z.frozen 6
      have zc7 := S7.out.z.cell 7
      have zf7 := S7.out.z.frozen 7
      have zc8 := S7.out.z.cell 8
      have zf8 := S7.out.z.frozen 8
      simp only [List.getElem?_toArray] at x0 x3 zc0 zc1 zc2 zc3 zc4 zc5 zc6 zc7 zc8
      have HD := Lib.hid (T7.out.lay (.int .i64 2) (.int .i64 n6) (.bool n5) (.int .i64 n7) (.slice none 0 0) (.int .i64 0) (.int .i64 0) (.int .i64 0) (.string ⟨#[]⟩))
      have hld := step_load _ _ _ _ _ _ _ _ _ _ _ _ T7.out.x
      go_wp2_with fail
      refine bodyPost_ret (step_results rfl _ _ _ _ _ _ _ _ _ _ _ _ _ _ rfl rfl HD.out.1) rfl ?_
      exact post_ok HE.out (.slice none 0 0) (OwnI.nil _ _) HD.out.2.1
    · obtain ⟨⟨A0, c0⟩, c1, f1, _⟩ := S7.out.at_
      have x0 := S7.out.x.cell 0
      have x3 := S7.out.x.cell 3
      have xf3 := S7.out.x.frozen 3
      have zc0 := S7.out.z.cell 0
      have zf0 := S7.out.z.frozen 0
      have zc1 := S7.out.z.cell 1
      have zf1 := S7.out.z.frozen 1
      have zc2 := S7.out.z.cell 2
      have zf2 := S7.out.z.frozen 2
      have zc3 := S7.out.z.cell 3
      have zf3 := S7.out.z.frozen 3
      have zc4 := S7.out.z.cell 4
      have zf4 := S7.out.z.frozen 4
      have zc5 := S7.out.z.cell 5
      have zf5 := S7.out.z.frozen 5
      have zc6 := S7.out.z.cell 6
      have zf6 := S7.out.z.frozen 6
      have zc7 := S7.out.z.cell 7
      have zf7 := S7.out.z.frozen 7
      have zc8 := S7.out.z.cell 8
      have zf8 := S7.out.z.frozen 8
      simp only [List.getElem?_toArray] at x0 x3 zc0 zc1 zc2 zc3 zc4 zc5 zc6 zc7 zc8
      have HD := Lib.hid (T7.out.lay (.int .i64 0) (.int .i64 0) (.bool false) (.int .i64 0) (.slice none 0 0) (.int .i64 0) (.int .i64 0) (.int .i64 0) (.string ⟨#[]⟩))
      skip
      go_wp2_with fail
      refine bodyPost_ret (step_results rfl _ _ _ _ _ _ _ _ _ _ _ _ _ _ rfl rfl HD.out.1) rfl ?_
      exact post_bad HE.out rfl HD.out.2.1
    · obtain ⟨⟨A0, c0⟩, c1, f1, _⟩ := S7.out.at_
      have x0 := S7.out.x.cell 0
      have x3 := S7.out.x.cell 3
      have xf3 := S7.out.x.frozen 3
      have zc0 := S7.out.z.cell 0
      have zf0 := S7.out.z.frozen 0
      have zc1 := S7.out.z.cell 1
      have zf1 := S7.out.z.frozen 1
      have zc2 := S7.out.z.cell 2
      have zf2 := S7.out.z.frozen 2
      have zc3 := S7.out.z.cell 3
      have zf3 := S7.out.z.frozen 3
      have zc4 := S7.out.z.cell 4
      have zf4 := S7.out.z.frozen 4
      have zc5 := S7.out.z.cell 5
      have zf5 := S7.out.z.frozen 5
      have zc6 := S7.out.z.cell 6
      have zf6 := S7.out.z.frozen 6
      have zc7 := S7.out.z.cell 7
      have zf7 := S7.out.z.frozen 7
      have zc8 := S7.out.z.cell 8
      have zf8 := S7.out.z.frozen 8
      simp only [List.getElem?_toArray] at x0 x3 zc0 zc1 zc2 zc3 zc4 zc5 zc6 zc7 zc8
      have HD := Lib.hid (T7.out.lay (.int .i64 0) (.int .i64 0) (.bool false) (.int .i64 0) (.slice none 0 0) (.int .i64 0) (.int .i64 0) (.int .i64 0) (.string ⟨#[]⟩))
      simp only [List.length_cons] at c0
      go_wp2_with fail
      refine bodyPost_ret (step_results rfl _ _ _ _ _ _ _ _ _ _ _ _ _ _ rfl rfl HD.out.1) rfl ?_
      exact post_bad HE.out rfl HD.out.2.1
  · have HE : Hid (parseR (cutAt 32 l) = (⟨3, (numR (wayR q).2).1, (wayR q).1, (numR (numR (wayR q).2).2).1, [], noCall⟩, (numR (numR (wayR q).2).2).2)) := by unfold Hid; rw [HPR.out]; rfl
    clear HPR
    obtain ⟨⟨A0, c0⟩, c1, f1, _⟩ := S4.out.at_
    have x0 := S4.out.x.cell 0
    simp only [List.getElem?_toArray] at x0
    go_wp2_with fail
    refine (rway_any _ p _ S4.out.rd ).mono ?_
    rintro e w5 ⟨rfl, h5, f5⟩
    have S5 := Lib.hid (S4.out.step h5 f5)
    clear h5 f5
    clear c0 c1 f1 x0
    obtain ⟨n5, hn⟩ : ∃ n5, (wayR q).1 = n5 := ⟨_, rfl⟩
    rw [hn]
    rw [hn] at HE
    clear hn
    obtain ⟨r5, hr⟩ : ∃ r5, (wayR q).2 = r5 := ⟨_, rfl⟩
    rw [hr] at HE S5
    clear hr
    have T5 : Hid (PSt w (w5.setCell ⟨bx, 2, none⟩ (.bool n5)) p w.heap.size bx r5 #[.int .i64 3, .int .i64 0, .bool n5, .int .i64 0, .slice none 0 0, .int .i64 0, .int .i64 0, .int .i64 0, .string ⟨#[]⟩]) := (S5.out.set 2 (.bool n5))
    obtain ⟨⟨A0, c0⟩, c1, f1, _⟩ := S5.out.at_
    have x0 := S5.out.x.cell 0
    have x2 := S5.out.x.cell 2
    have xf2 := S5.out.x.frozen 2
    simp only [List.getElem?_toArray] at x0 x2
    go_wp2_with fail
    refine (rnum_any _ p _ T5.out.rd T5.out.tabs T5.out.h8p).mono ?_
    rintro e w6 ⟨rfl, h6, f6⟩
    have S6 := Lib.hid (T5.out.step h6 f6)
    clear h6 f6
    clear c0 c1 f1 x0 x2 xf2
    obtain ⟨n6, hn⟩ : ∃ n6, (numR r5).1 = n6 := ⟨_, rfl⟩
    rw [hn]
    rw [hn] at HE
    clear hn
    obtain ⟨r6, hr⟩ : ∃ r6, (numR r5).2 = r6 := ⟨_, rfl⟩
    rw [hr] at HE S6
    clear hr
    have T6 : Hid (PSt w (w6.setCell ⟨bx, 1, none⟩ (.int .i64 n6)) p w.heap.size bx r6 #[.int .i64 3, .int .i64 n6, .bool n5, .int .i64 0, .slice none 0 0, .int .i64 0, .int .i64 0, .int .i64 0, .string ⟨#[]⟩]) := (S6.out.set 1 (.int .i64 n6))
    obtain ⟨⟨A0, c0⟩, c1, f1, _⟩ := S6.out.at_
    have x0 := S6.out.x.cell 0
    have x1 := S6.out.x.cell 1
    have xf1 := S6.out.x.frozen 1
    simp only [List.getElem?_toArray] at x0 x1
    go_wp2_with fail
    refine (rnum_any _ p _ T6.out.rd T6.out.tabs T6.out.h8p).mono ?_
    rintro e w7 ⟨rfl, h7, f7⟩
    have S7 := Lib.hid (T6.out.step h7 f7)
    clear h7 f7
    clear c0 c1 f1 x0 x1 xf1
    obtain ⟨n7, hn⟩ : ∃ n7, (numR r6).1 = n7 := ⟨_, rfl⟩
    rw [hn]
    rw [hn] at HE
    clear hn
    obtain ⟨r7, hr⟩ : ∃ r7, (numR r6).2 = r7 := ⟨_, rfl⟩
    rw [hr] at HE S7
    clear hr
    have T7 : Hid (PSt w (w7.setCell ⟨bx, 3, none⟩ (.int .i64 n7)) p w.heap.size bx r7 #[.int .i64 3, .int .i64 n6, .bool n5, .int .i64 n7, .slice none 0 0, .int .i64 0, .int .i64 0, .int .i64 0, .string ⟨#[]⟩]) := (S7.out.set 3 (.int .i64 n7))
    rcases rd_of r7 with rfl | ⟨l9, rfl⟩ | ⟨y9, ys9, rfl⟩
    · obtain ⟨⟨A0, c0⟩, c1, f1, _⟩ := S7.out.at_
      have x0 := S7.out.x.cell 0
      have x3 := S7.out.x.cell 3
      have xf3 := S7.out.x.frozen 3
      have zc0 := S7.out.z.cell 0
      have zf0 := S7.out.z.frozen 0
      have zc1 := S7.out.z.cell 1
      have zf1 := S7.out.z.frozen 1
      have zc2 := S7.out.z.cell 2
      have zf2 := S7.out.z.frozen 2
      have zc3 := S7.out.z.cell 3
      have zf3 := S7.out.z.frozen 3
      have zc4 := S7.out.z.cell 4
      have zf4 := S7.out.z.frozen 4
      have zc5 := S7.out.z.cell 5
      have zf5 := S7.out.z.frozen 5
      have zc6 := S7.out.z.cell 6
      have zf6 := S7.out.z.frozen 6
      have zc7 := S7.out.z.cell 7
      have zf7 := S7.out.z.frozen 7
      have zc8 := S7.out.z.cell 8
      have zf8 := S7.out.z.frozen 8
      simp only [List.getElem?_toArray] at x0 x3 zc0 zc1 zc2 zc3 zc4 zc5 zc6 zc7 zc8
      have HD := Lib.hid (T7.out.lay (.int .i64 3) (.int .i64 n6) (.bool n5) (.int .i64 n7) (.slice none 0 0) (.int .i64 0) (.int .i64 0) (.int .i64 0) (.string ⟨#[]⟩))
      have hld := step_load _ _ _ _ _ _ _ _ _ _ _ _ T7.out.x
      go_wp2_with fail
      refine bodyPost_ret (step_results rfl _ _ _ _ _ _ _ _ _ _ _ _ _ _ rfl rfl HD.out.1) rfl ?_
      exact post_ok HE.out (.slice none 0 0) (OwnI.nil _ _) HD.out.2.1
    · obtain ⟨⟨A0, c0⟩, c1, f1, _⟩ := S7.out.at_
      have x0 := S7.out.x.cell 0
      have x3 := S7.out.x.cell 3
      have xf3 := S7.out.x.frozen 3
      have zc0 := S7.out.z.cell 0
      have zf0 := S7.out.z.frozen 0
      have zc1 := S7.out.z.cell 1
      have zf1 := S7.out.z.frozen 1
      have zc2 := S7.out.z.cell 2
      have zf2 := S7.out.z.frozen 2
      have zc3 := S7.out.z.cell 3
      have zf3 := S7.out.z.frozen 3
      have zc4 := S7.out.z.cell 4
      have zf4 := S7.out.z.frozen 4
      have zc5 := S7.out.z.cell 5
      have zf5 := S7.out.z.frozen 5
      have zc6 := S7.out.z.cell 6
      have zf6 := S7.out.z.frozen 6
      have zc7 := S7.out.z.cell 7
      have zf7 := S7.out.z.frozen 7
      have zc8 := S7.out.z.cell 8
      have zf8 := S7.out.z.frozen 8
      simp only [List.getElem?_toArray] at x0 x3 zc0 zc1 zc2 zc3 zc4 zc5 zc6 zc7 zc8
      have HD := Lib.hid (T7.out.lay (.int .i64 0) (.int .i64 0) (.bool false) (.int .i64 0) (.slice none 0 0) (.int .i64 0) (.int .i64 0) (.int .i64 0) (.string ⟨#[]⟩))
      skip
      go_wp2_with fail
      refine bodyPost_ret (step_results rfl _ _ _ _ _ _ _ _ _ _ _ _ _ _ rfl rfl HD.out.1) rfl ?_
      exact post_bad HE.out rfl HD.out.2.1
    · obtain ⟨⟨A0, c0⟩, c1, f1, _⟩ := S7.out.at_
      have x0 := S7.out.x.cell 0
      have x3 := S7.out.x.cell 3
      have xf3 := S7.out.x.frozen 3
      have zc0 := S7.out.z.cell 0
      have zf0 := S7.out.z.frozen 0
      have zc1 := S7.out.z.cell 1
      have zf1 := S7.out.z.frozen 1
      have zc2 := S7.out.z.cell 2
      have zf2 := S7.out.z.frozen 2
      have zc3 := S7.out.z.cell 3
      have zf3 := S7.out.z.frozen 3
      have zc4 := S7.out.z.cell 4
      have zf4 := S7.out.z.frozen 4
      have zc5 := S7.out.z.cell 5
      have zf5 := S7.out.z.frozen 5
      have zc6 := S7.out.z.cell 6
      have zf6 := S7.out.z.frozen 6
      have zc7 := S7.out.z.cell 7
      have zf7 := S7.out.z.frozen 7
      have zc8 := S7.out.z.cell 8
      have zf8 := S7.out.z.frozen 8
      simp only [List.getElem?_toArray] at x0 x3 zc0 zc1 zc2 zc3 zc4 zc5 zc6 zc7 zc8
      have HD := Lib.hid (T7.out.lay (.int .i64 0) (.int .i64 0) (.bool false) (.int .i64 0) (.slice none 0 0) (.int .i64 0) (.int .i64 0) (.int .i64 0) (.string ⟨#[]⟩))
      simp only [List.length_cons] at c0
      go_wp2_with fail
      refine bodyPost_ret (step_results rfl _ _ _ _ _ _ _ _ _ _ _ _ _ _ rfl rfl HD.out.1) rfl ?_
      exact post_bad HE.out rfl HD.out.2.1
  · have HE : Hid (parseR (cutAt 32 l) = (⟨4, (numR (wayR q).2).1, (wayR q).1, (numR (numR (wayR q).2).2).1, [], noCall⟩, (numR (numR (wayR q).2).2).2)) := by unfold Hid; rw [HPR.out]; rfl
    clear HPR
    obtain ⟨⟨A0, c0⟩, c1, f1, _⟩ := S4.out.at_
    have x0 := S4.out.x.cell 0
    simp only [List.getElem?_toArray] at x0
    go_wp2_with fail
    refine (rway_any _ p _ S4.out.rd ).mono ?_
    rintro e w5 ⟨rfl, h5, f5⟩
    have S5 := Lib.hid (S4.out.step h5 f5)
    clear h5 f5
    clear c0 c1 f1 x0
    obtain ⟨n5, hn⟩ : ∃ n5, (wayR q).1 = n5 := ⟨_, rfl⟩
    rw [hn]
    rw [hn] at HE
    clear hn
    obtain ⟨r5, hr⟩ : ∃ r5, (wayR q).2 = r5 := ⟨_, rfl⟩
    rw [hr] at HE S5
    clear hr
    have T5 : Hid (PSt w (w5.setCell ⟨bx, 2, none⟩ (.bool n5)) p w.heap.size bx r5 #[.int .i64 4, .int .i64 0, .bool n5, .int .i64 0, .slice none 0 0, .int .i64 0, .int .i64 0, .int .i64 0, .string ⟨#[]⟩]) := (S5.out.set 2 (.bool n5))
    obtain ⟨⟨A0, c0⟩, c1, f1, _⟩ := S5.out.at_
    have x0 := S5.out.x.cell 0
    have x2 := S5.out.x.cell 2
    have xf2 := S5.out.x.frozen 2
    simp only [List.getElem?_toArray] at x0 x2
    go_wp2_with fail
    refine (rnum_any _ p _ T5.out.rd T5.out.tabs T5.out.h8p).mono ?_
    rintro e w6 ⟨rfl, h6, f6⟩
    have S6 := Lib.hid (T5.out.step h6 f6)
    clear h6 f6
    clear c0 c1 f1 x0 x2 xf2
    obtain ⟨n6, hn⟩ : ∃ n6, (numR r5).1 = n6 := ⟨_, rfl⟩
    rw [hn]
    rw [hn] at HE
    clear hn
    obtain ⟨r6, hr⟩ : ∃ r6, (numR r5).2 = r6 := ⟨_, rfl⟩
    rw [hr] at HE S6
    clear hr
    have T6 : Hid (PSt w (w6.setCell ⟨bx, 1, none⟩ (.int .i64 n6)) p w.heap.size bx r6 #[.int .i64 4, .int .i64 n6, .bool n5, .int .i64 0, .slice none 0 0, .int .i64 0, .int .i64 0, .int .i64 0, .string ⟨#[]⟩]) := (S6.out.set 1 (.int .i64 n6))
    obtain ⟨⟨A0, c0⟩, c1, f1, _⟩ := S6.out.at_
    have x0 := S6.out.x.cell 0
    have x1 := S6.out.x.cell 1
    have xf1 := S6.out.x.frozen 1
    simp only [List.getElem?_toArray] at x0 x1
    go_wp2_with fail
    refine (rnum_any _ p _ T6.out.rd T6.out.tabs T6.out.h8p).mono ?_
    rintro e w7 ⟨rfl, h7, f7⟩
    have S7 := Lib.hid (T6.out.step h7 f7)
    clear h7 f7
    clear c0 c1 f1 x0 x1 xf1
    obtain ⟨n7, hn⟩ : ∃ n7, (numR r6).1 = n7 := ⟨_, rfl⟩
    rw [hn]
    rw [hn] at HE
    clear hn
    obtain ⟨r7, hr⟩ : ∃ r7, (numR r6).2 = r7 := ⟨_, rfl⟩
    rw [hr] at HE S7
    clear hr
    have T7 : Hid (PSt w (w7.setCell ⟨bx, 3, none⟩ (.int .i64 n7)) p w.heap.size bx r7 #[.int .i64 4, .int .i64 n6, .bool n5, .int .i64 n7, .slice none 0 0, .int .i64 0, .int .i64 0, .int .i64 0, .string ⟨#[]⟩]) := (S7.out.set 3 (.int .i64 n7))
    rcases rd_of r7 with rfl | ⟨l9, rfl⟩ | ⟨y9, ys9, rfl⟩
    · obtain ⟨⟨A0, c0⟩, c1, f1, _⟩ := S7.out.at_
      have x0 := S7.out.x.cell 0
      have x3 := S7.out.x.cell 3
      have xf3 := S7.out.x.frozen 3
      have zc0 := S7.out.z.cell 0
      have zf0 := S7.out.z.frozen 0
      have zc1 := S7.out.z.cell 1
      have zf1 := S7.out.z.frozen 1
      have zc2 := S7.out.z.cell 2
      have zf2 := S7.out.z.frozen 2
      have zc3 := S7.out.z.cell 3
      have zf3 := S7.out.z.frozen 3
      have zc4 := S7.out.z.cell 4
      have zf4 := S7.out.z.frozen 4
      have zc5 := S7.out.z.cell 5
      have zf5 := S7.out.z.frozen 5
      have zc6 := S7.out.z.cell 6
      have zf6 := S7.out.z.frozen 6
      have zc7 := S7.out.z.cell 7
      have zf7 := S7.out.z.frozen 7
      have zc8 := S7.out.z.cell 8
      have zf8 := S7.out.z.frozen 8
      simp only [List.getElem?_toArray] at x0 x3 zc0 zc1 zc2 zc3 zc4 zc5 zc6 zc7 zc8
      have HD := Lib.hid (T7.out.lay (.int .i64 4) (.int .i64 n6) (.bool n5) (.int .i64 n7) (.slice none 0 0) (.int .i64 0) (.int .i64 0) (.int .i64 0) (.string ⟨#[]⟩))
      have hld := step_load _ _ _ _ _ _ _ _ _ _ _ _ T7.out.x
      go_wp2_with fail
      refine bodyPost_ret (step_results rfl _ _ _ _ _ _ _ _ _ _ _ _ _ _ rfl rfl HD.out.1) rfl ?_
      exact post_ok HE.out (.slice none 0 0) (OwnI.nil _ _) HD.out.2.1
    · obtain ⟨⟨A0, c0⟩, c1, f1, _⟩ := S7.out.at_
      have x0 := S7.out.x.cell 0
      have x3 := S7.out.x.cell 3
      have xf3 := S7.out.x.frozen 3
      have zc0 := S7.out.z.cell 0
      have zf0 := S7.out.z.frozen 0
      have zc1 := S7.out.z.cell 1
      have zf1 := S7.out.z.frozen 1
      have zc2 := S7.out.z.cell 2
      have zf2 := S7.out.z.frozen 2
      have zc3 := S7.out.z.cell 3
      have zf3 := S7.out.z.frozen 3
      have zc4 := S7.out.z.cell 4
      have zf4 := S7.out.z.frozen 4
      have zc5 := S7.out.z.cell 5
      have zf5 := S7.out.z.frozen 5
      have zc6 := S7.out.z.cell 6
      have zf6 := S7.out.z.frozen 6
      have zc7 := S7.out.z.cell 7
      have zf7 := S7.out.z.frozen 7
      have zc8 := S7.out.z.cell 8
      have zf8 := S7.out.z.frozen 8
      simp only [List.getElem?_toArray] at x0 x3 zc0 zc1 zc2 zc3 zc4 zc5 zc6 zc7 zc8
      have HD := Lib.hid (T7.out.lay (.int .i64 0) (.int .i64 0) (.bool false) (.int .i64 0) (.slice none 0 0) (.int .i64 0) (.int .i64 0) (.int .i64 0) (.string ⟨#[]⟩))
      skip
      go_wp2_with fail
      refine bodyPost_ret (step_results rfl _ _ _ _ _ _ _ _ _ _ _ _ _ _ rfl rfl HD.out.1) rfl ?_
      exact post_bad HE.out rfl HD.out.2.1
    · obtain ⟨⟨A0, c0⟩, c1, f1, _⟩ := S7.out.at_
      have x0 := S7.out.x.cell 0
      have x3 := S7.out.x.cell 3
      have xf3 := S7.out.x.frozen 3
      have zc0 := S7.out.z.cell 0
      have zf0 := S7.out.z.frozen 0
      have zc1 := S7.out.z.cell 1
      have zf1 := S7.out.z.frozen 1
      have zc2 := S7.out.z.cell 2
      have zf2 := S7.out.z.frozen 2
      have zc3 := S7.out.z.cell 3
      have zf3 := S7.out.z.frozen 3
      have zc4 := S7.out.z.cell 4
      have zf4 := S7.out.z.frozen 4
      have zc5 := S7.out.z.cell 5
      have zf5 := S7.out.z.frozen 5
      have zc6 := S7.out.z.cell 6
      have zf6 := S7.out.z.frozen 6
      have zc7 := S7.out.z.cell 7
      have zf7 := S7.out.z.frozen 7
      have zc8 := S7.out.z.cell 8
      have zf8 := S7.out.z.frozen 8
      simp only [List.getElem?_toArray] at x0 x3 zc0 zc1 zc2 zc3 zc4 zc5 zc6 zc7 zc8
      have HD := Lib.hid (T7.out.lay (.int .i64 0) (.int .i64 0) (.bool false) (.int .i64 0) (.slice none 0 0) (.int .i64 0) (.int .i64 0) (.int .i64 0) (.string ⟨#[]⟩))
      simp only [List.length_cons] at c0
      go_wp2_with fail
      refine bodyPost_ret (step_results rfl _ _ _ _ _ _ _ _ _ _ _ _ _ _ rfl rfl HD.out.1) rfl ?_
      exact post_bad HE.out rfl HD.out.2.1
  · have HE : Hid (parseR (cutAt 32 l) = (⟨5, (numR q).1, false, 0, [], noCall⟩, (numR q).2)) := by unfold Hid; rw [HPR.out]; rfl
    clear HPR
    obtain ⟨⟨A0, c0⟩, c1, f1, _⟩ := S4.out.at_
    have x0 := S4.out.x.cell 0
    simp only [List.getElem?_toArray] at x0
    go_wp2_with fail
    refine (rnum_any _ p _ S4.out.rd S4.out.tabs S4.out.h8p).mono ?_
    rintro e w5 ⟨rfl, h5, f5⟩
    have S5 := Lib.hid (S4.out.step h5 f5)
    clear h5 f5
    clear c0 c1 f1 x0
    obtain ⟨n5, hn⟩ : ∃ n5, (numR q).1 = n5 := ⟨_, rfl⟩
    rw [hn]
    rw [hn] at HE
    clear hn
    obtain ⟨r5, hr⟩ : ∃ r5, (numR q).2 = r5 := ⟨_, rfl⟩
    rw [hr] at HE S5
    clear hr
    have T5 : Hid (PSt w (w5.setCell ⟨bx, 1, none⟩ (.int .i64 n5)) p w.heap.size bx r5 #[.int .i64 5, .int .i64 n5, .bool false, .int .i64 0, .slice none 0 0, .int .i64 0, .int .i64 0, .int .i64 0, .string ⟨#[]⟩]) := (S5.out.set 1 (.int .i64 n5))
    rcases rd_of r5 with rfl | ⟨l9, rfl⟩ | ⟨y9, ys9, rfl⟩
    · obtain ⟨⟨A0, c0⟩, c1, f1, _⟩ := S5.out.at_
      have x0 := S5.out.x.cell 0
      have x1 := S5.out.x.cell 1
      have xf1 := S5.out.x.frozen 1
      have zc0 := S5.out.z.cell 0
      have zf0 := S5.out.z.frozen 0
      have zc1 := S5.out.z.cell 1
      have zf1 := S5.out.z.frozen 1
      have zc2 := S5.out.z.cell 2
      have zf2 := S5.out.z.frozen 2
      have zc3 := S5.out.z.cell 3
      have zf3 := S5.out.z.frozen 3
      have zc4 := S5.out.z.cell 4
      have zf4 := S5.out.z.frozen 4
      have zc5 := S5.out.z.cell 5
      have zf5 := S5.out.z.frozen 5
      have zc6 := S5.out.z.cell 6
      have zf6 := S5.out.z.frozen 6
      have zc7 := S5.out.z.cell 7
      have zf7 := S5.out.z.frozen 7
      have zc8 := S5.out.z.cell 8
      have zf8 := S5.out.z.frozen 8
      simp only [List.getElem?_toArray] at x0 x1 zc0 zc1 zc2 zc3 zc4 zc5 zc6 zc7 zc8
      have HD := Lib.hid (T5.out.lay (.int .i64 5) (.int .i64 n5) (.bool false) (.int .i64 0) (.slice none 0 0) (.int .i64 0) (.int .i64 0) (.int .i64 0) (.string ⟨#[]⟩))
      have hld := step_load _ _ _ _ _ _ _ _ _ _ _ _ T5.out.x
      go_wp2_with fail
      refine bodyPost_ret (step_results rfl _ _ _ _ _ _ _ _ _ _ _ _ _ _ rfl rfl HD.out.1) rfl ?_
      exact post_ok HE.out (.slice none 0 0) (OwnI.nil _ _) HD.out.2.1
    · obtain ⟨⟨A0, c0⟩, c1, f1, _⟩ := S5.out.at_
      have x0 := S5.out.x.cell 0
      have x1 := S5.out.x.cell 1
      have xf1 := S5.out.x.frozen 1
      have zc0 := S5.out.z.cell 0
      have zf0 := S5.out.z.frozen 0
      have zc1 := S5.out.z.cell 1
      have zf1 := S5.out.z.frozen 1
      have zc2 := S5.out.z.cell 2
      have zf2 := S5.out.z.frozen 2
      have zc3 := S5.out.z.cell 3
      have zf3 := S5.out.z.frozen 3
      have zc4 := S5.out.z.cell 4
      have zf4 := S5.out.z.frozen 4
      have zc5 := S5.out.z.cell 5
      have zf5 := S5.out.z.frozen 5
      have zc6 := S5.out.z.cell 6
      have zf6 := S5.out.z.frozen 6
      have zc7 := S5.out.z.cell 7
      have zf7 := S5.out.z.frozen 7
      have zc8 := S5.out.z.cell 8
      have zf8 := S5.out.z.frozen 8
      simp only [List.getElem?_toArray] at x0 x1 zc0 zc1 zc2 zc3 zc4 zc5 zc6 zc7 zc8
      have HD := Lib.hid (T5.out.lay (.int .i64 0) (.int .i64 0) (.bool false) (.int .i64 0) (.slice none 0 0) (.int .i64 0) (.int .i64 0) (.int .i64 0) (.string ⟨#[]⟩))
      skip
      go_wp2_with fail
      refine bodyPost_ret (step_results rfl _ _ _ _ _ _ _ _ _ _ _ _ _ _ rfl rfl HD.out.1) rfl ?_
      exact post_bad HE.out rfl HD.out.2.1
    · obtain ⟨⟨A0, c0⟩, c1, f1, _⟩ := S5.out.at_
      have x0 := S5.out.x.cell 0
      have x1 := S5.out.x.cell 1
      have xf1 := S5.out.x.frozen 1
      have zc0 := S5.out.z.cell 0
      have zf0 := S5.out.z.frozen 0
      have zc1 := S5.out.z.cell 1
      have zf1 := S5.out.z.frozen 1
      have zc2 := S5.out.z.cell 2
      have zf2 := S5.out.z.frozen 2
      have zc3 := S5.out.z.cell 3
      have zf3 := S5.out.z.frozen 3
      have zc4 := S5.out.z.cell 4
      have zf4 := S5.out.z.frozen 4
      have zc5 := S5.out.z.cell 5
      have zf5 := S5.out.z.frozen 5
      have zc6 := S5.out.z.cell 6
      have zf6 := S5.out.z.frozen 6
      have zc7 := S5.out.z.cell 7
      have zf7 := S5.out.z.frozen 7
      have zc8 := S5.out.z.cell 8
      have zf8 := S5.out.z.frozen 8
      simp only [List.getElem?_toArray] at x0 x1 zc0 zc1 zc2 zc3 zc4 zc5 zc6 zc7 zc8
      have HD := Lib.hid (T5.out.lay (.int .i64 0) (.int .i64 0) (.bool false) (.int .i64 0) (.slice none 0 0) (.int .i64 0) (.int .i64 0) (.int .i64 0) (.string ⟨#[]⟩))
      simp only [List.length_cons] at c0
      go_wp2_with fail
      refine bodyPost_ret (step_results rfl _ _ _ _ _ _ _ _ _ _ _ _ _ _ rfl rfl HD.out.1) rfl ?_
      exact post_bad HE.out rfl HD.out.2.1
  · have HE : Hid (parseR (cutAt 32 l) = (⟨6, (numR q).1, false, (numR (numR q).2).1, [], noCall⟩, (numR (numR q).2).2)) := by unfold Hid; rw [HPR.out]; rfl
    clear HPR
    obtain ⟨⟨A0, c0⟩, c1, f1, _⟩ := S4.out.at_
    have x0 := S4.out.x.cell 0
    simp only [List.getElem?_toArray] at x0
    go_wp2_with fail
    refine (rnum_any _ p _ S4.out.rd S4.out.tabs S4.out.h8p).mono ?_
    rintro e w5 ⟨rfl, h5, f5⟩
    have S5 := Lib.hid (S4.out.step h5 f5)
    clear h5 f5
    clear c0 c1 f1 x0
    obtain ⟨n5, hn⟩ : ∃ n5, (numR q).1 = n5 := ⟨_, rfl⟩
    rw [hn]
    rw [hn] at HE
    clear hn
    obtain ⟨r5, hr⟩ : ∃ r5, (numR q).2 = r5 := ⟨_, rfl⟩
    rw [hr] at HE S5
    clear hr
    have T5 : Hid (PSt w (w5.setCell ⟨bx, 1, none⟩ (.int .i64 n5)) p w.heap.size bx r5 #[.int .i64 6, .int .i64 n5, .bool false, .int .i64 0, .slice none 0 0, .int .i64 0, .int .i64 0, .int .i64 0, .string ⟨#[]⟩]) := (S5.out.set 1 (.int .i64 n5))
    obtain ⟨⟨A0, c0⟩, c1, f1, _⟩ := S5.out.at_
    have x0 := S5.out.x.cell 0
    have x1 := S5.out.x.cell 1
    have xf1 := S5.out.x.frozen 1
    simp only [List.getElem?_toArray] at x0 x1
    go_wp2_with fail
    refine (rnum_any _ p _ T5.out.rd T5.out.tabs T5.out.h8p).mono ?_
    rintro e w6 ⟨rfl, h6, f6⟩
    have S6 := Lib.hid (T5.out.step h6 f6)
    clear h6 f6
    clear c0 c1 f1 x0 x1 xf1
    obtain ⟨n6, hn⟩ : ∃ n6, (numR r5).1 = n6 := ⟨_, rfl⟩
    rw [hn]
    rw [hn] at HE
    clear hn
    obtain ⟨r6, hr⟩ : ∃ r6, (numR r5).2 = r6 := ⟨_, rfl⟩
    rw [hr] at HE S6
    clear hr
    have T6 : Hid (PSt w (w6.setCell ⟨bx, 3, none⟩ (.int .i64 n6)) p w.heap.size bx r6 #[.int .i64 6, .int .i64 n5, .bool false, .int .i64 n6, .slice none 0 0, .int .i64 0, .int .i64 0, .int .i64 0, .string ⟨#[]⟩]) := (S6.out.set 3 (.int .i64 n6))
    obtain ⟨⟨A0, c0⟩, c1, f1, _⟩ := S6.out.at_
    have x0 := S6.out.x.cell 0
    have x3 := S6.out.x.cell 3
    have xf3 := S6.out.x.frozen 3
    simp only [List.getElem?_toArray] at x0 x3
    go_wp2_with fail
    clear c0 c1 f1 x0 x3 xf3
    go_loopg [72] 0 (fun _ _ wr => Hid (PSt w wr p w.heap.size bx r6 #[.int .i64 6, .int .i64 n5, .bool false, .int .i64 n6, .slice none 0 0, .int .i64 0, .int .i64 0, .int .i64 0, .string ⟨#[]⟩]))
    case atStart => exact T6.out
    case round =>
      have hP := hrel
      clear hrel
      rcases rd_of r6 with rfl | ⟨l9, rfl⟩ | ⟨y9, ys9, rfl⟩
      · obtain ⟨⟨A0, c0⟩, c1, f1, _⟩ := hP.out.at_
        have x0 := hP.out.x.cell 0
        have zc0 := hP.out.z.cell 0
        have zf0 := hP.out.z.frozen 0
        have zc1 := hP.out.z.cell 1
        have zf1 := hP.out.z.frozen 1
        have zc2 := hP.out.z.cell 2
        have zf2 := hP.out.z.frozen 2
        have zc3 := hP.out.z.cell 3
        have zf3 := hP.out.z.frozen 3
        have zc4 := hP.out.z.cell 4
        have zf4 := hP.out.z.frozen 4
        have zc5 := hP.out.z.cell 5
        have zf5 := hP.out.z.frozen 5
        have zc6 := hP.out.z.cell 6
        have zf6 := hP.out.z.frozen 6
        have zc7 := hP.out.z.cell 7
        have zf7 := hP.out.z.frozen 7
        have zc8 := hP.out.z.cell 8
        have zf8 := hP.out.z.frozen 8
        simp only [List.getElem?_toArray] at x0 zc0 zc1 zc2 zc3 zc4 zc5 zc6 zc7 zc8
        have HD := Lib.hid (hP.out.lay (.int .i64 6) (.int .i64 n5) (.bool false) (.int .i64 n6) (.slice none 0 0) (.int .i64 0) (.int .i64 0) (.int .i64 0) (.string ⟨#[]⟩))
        have hld := step_load _ _ _ _ _ _ _ _ _ _ _ _ hP.out.x
        go_wp2_with fail
        refine bodyPost_ret (step_results rfl _ _ _ _ _ _ _ _ _ _ _ _ _ _ rfl rfl HD.out.1) rfl ?_
        exact post_ok HE.out (.slice none 0 0) (OwnI.nil _ _) HD.out.2.1
      · obtain ⟨⟨A0, c0⟩, c1, f1, _⟩ := hP.out.at_
        have x0 := hP.out.x.cell 0
        have zc0 := hP.out.z.cell 0
        have zf0 := hP.out.z.frozen 0
        have zc1 := hP.out.z.cell 1
        have zf1 := hP.out.z.frozen 1
        have zc2 := hP.out.z.cell 2
        have zf2 := hP.out.z.frozen 2
        have zc3 := hP.out.z.cell 3
        have zf3 := hP.out.z.frozen 3
        have zc4 := hP.out.z.cell 4
        have zf4 := hP.out.z.frozen 4
        have zc5 := hP.out.z.cell 5
        have zf5 := hP.out.z.frozen 5
        have zc6 := hP.out.z.cell 6
        have zf6 := hP.out.z.frozen 6
        have zc7 := hP.out.z.cell 7
        have zf7 := hP.out.z.frozen 7
        have zc8 := hP.out.z.cell 8
        have zf8 := hP.out.z.frozen 8
        simp only [List.getElem?_toArray] at x0 zc0 zc1 zc2 zc3 zc4 zc5 zc6 zc7 zc8
        have HD := Lib.hid (hP.out.lay (.int .i64 0) (.int .i64 0) (.bool false) (.int .i64 0) (.slice none 0 0) (.int .i64 0) (.int .i64 0) (.int .i64 0) (.string ⟨#[]⟩))
        skip
        go_wp2_with fail
        refine bodyPost_ret (step_results rfl _ _ _ _ _ _ _ _ _ _ _ _ _ _ rfl rfl HD.out.1) rfl ?_
        exact post_bad HE.out rfl HD.out.2.1
      · obtain ⟨⟨A0, c0⟩, c1, f1, _⟩ := hP.out.at_
        have x0 := hP.out.x.cell 0
        have zc0 := hP.out.z.cell 0
        have zf0 := hP.out.z.frozen 0
        have zc1 := hP.out.z.cell 1
        have zf1 := hP.out.z.frozen 1
        have zc2 := hP.out.z.cell 2
        have zf2 := hP.out.z.frozen 2
        have zc3 := hP.out.z.cell 3
        have zf3 := hP.out.z.frozen 3
        have zc4 := hP.out.z.cell 4
        have zf4 := hP.out.z.frozen 4
        have zc5 := hP.out.z.cell 5
        have zf5 := hP.out.z.frozen 5
        have zc6 := hP.out.z.cell 6
        have zf6 := hP.out.z.frozen 6
        have zc7 := hP.out.z.cell 7
        have zf7 := hP.out.z.frozen 7
        have zc8 := hP.out.z.cell 8
        have zf8 := hP.out.z.frozen 8
        simp only [List.getElem?_toArray] at x0 zc0 zc1 zc2 zc3 zc4 zc5 zc6 zc7 zc8
        have HD := Lib.hid (hP.out.lay (.int .i64 0) (.int .i64 0) (.bool false) (.int .i64 0) (.slice none 0 0) (.int .i64 0) (.int .i64 0) (.int .i64 0) (.string ⟨#[]⟩))
        simp only [List.length_cons] at c0
        go_wp2_with fail
        refine bodyPost_ret (step_results rfl _ _ _ _ _ _ _ _ _ _ _ _ _ _ rfl rfl HD.out.1) rfl ?_
        exact post_bad HE.out rfl HD.out.2.1
  · have HE : Hid (parseR (cutAt 32 l) = (⟨7, (numR q).1, false, (numR (numR q).2).1, (fatesR (numR (numR q).2).2.1 (numR (numR q).2).2.2).1, noCall⟩, ([], (fatesR (numR (numR q).2).2.1 (numR (numR q).2).2.2).2))) := by unfold Hid; rw [HPR.out]; rfl
    clear HPR
    obtain ⟨⟨A0, c0⟩, c1, f1, _⟩ := S4.out.at_
    have x0 := S4.out.x.cell 0
    simp only [List.getElem?_toArray] at x0
    go_wp2_with fail
    refine (rnum_any _ p _ S4.out.rd S4.out.tabs S4.out.h8p).mono ?_
    rintro e w5 ⟨rfl, h5, f5⟩
    have S5 := Lib.hid (S4.out.step h5 f5)
    clear h5 f5
    clear c0 c1 f1 x0
    obtain ⟨n5, hn⟩ : ∃ n5, (numR q).1 = n5 := ⟨_, rfl⟩
    rw [hn]
    rw [hn] at HE
    clear hn
    obtain ⟨r5, hr⟩ : ∃ r5, (numR q).2 = r5 := ⟨_, rfl⟩
    have HQ5 : Hid (r5.1.length ≤ 131073) := by unfold Hid; rw [← hr]; exact Nat.le_trans (num_len_le _) HQL.out
    rw [hr] at HE S5
    clear hr
    have T5 : Hid (PSt w (w5.setCell ⟨bx, 1, none⟩ (.int .i64 n5)) p w.heap.size bx r5 #[.int .i64 7, .int .i64 n5, .bool false, .int .i64 0, .slice none 0 0, .int .i64 0, .int .i64 0, .int .i64 0, .string ⟨#[]⟩]) := (S5.out.set 1 (.int .i64 n5))
    obtain ⟨⟨A0, c0⟩, c1, f1, _⟩ := S5.out.at_
    have x0 := S5.out.x.cell 0
    have x1 := S5.out.x.cell 1
    have xf1 := S5.out.x.frozen 1
    simp only [List.getElem?_toArray] at x0 x1
    go_wp2_with fail
    refine (rnum_any _ p _ T5.out.rd T5.out.tabs T5.out.h8p).mono ?_
    rintro e w6 ⟨rfl, h6, f6⟩
    have S6 := Lib.hid (T5.out.step h6 f6)
    clear h6 f6
    clear c0 c1 f1 x0 x1 xf1
    obtain ⟨n6, hn⟩ : ∃ n6, (numR r5).1 = n6 := ⟨_, rfl⟩
    rw [hn]
    rw [hn] at HE
    clear hn
    obtain ⟨r6, hr⟩ : ∃ r6, (numR r5).2 = r6 := ⟨_, rfl⟩
    have HQ6 : Hid (r6.1.length ≤ 131073) := by unfold Hid; rw [← hr]; exact Nat.le_trans (num_len_le _) HQ5.out
    rw [hr] at HE S6
    clear hr
    have T6 : Hid (PSt w (w6.setCell ⟨bx, 3, none⟩ (.int .i64 n6)) p w.heap.size bx r6 #[.int .i64 7, .int .i64 n5, .bool false, .int .i64 n6, .slice none 0 0, .int .i64 0, .int .i64 0, .int .i64 0, .string ⟨#[]⟩]) := (S6.out.set 3 (.int .i64 n6))
    obtain ⟨⟨A0, c0⟩, c1, f1, _⟩ := S6.out.at_
    have x0 := S6.out.x.cell 0
    have x3 := S6.out.x.cell 3
    have xf3 := S6.out.x.frozen 3
    simp only [List.getElem?_toArray] at x0 x3
    go_wp2_with fail
    clear c0 c1 f1 x0 x3 xf3
    go_loopg [72] r6.1.length (fun gk _ wr => ∃ (ws : List Bs) (bd : Bool) (fs : List Int) (v : Value), ws.length ≤ gk ∧ Hid (PSt w wr p w.heap.size bx (ws, bd) #[.int .i64 7, .int .i64 n5, .bool false, .int .i64 n6, v, .int .i64 0, .int .i64 0, .int .i64 0, .string ⟨#[]⟩] ∧ wr.ownsRow w.heap.size 3 1 v fs.length (fs.map (Value.int .i64)) ∧ fatesR r6.1 r6.2 = (fs ++ (fatesR ws bd).1, (fatesR ws bd).2) ∧ fs.length + ws.length = r6.1.length))
    case atStart => exact ⟨r6.1, r6.2, [], .slice none 0 0, Nat.le_refl _, T6.out, World.ownsRow_nil _ _ _ _, rfl, by simp⟩
    case round =>
      obtain ⟨ws, bd, fs, v, hg, hP⟩ := hrel
      obtain ⟨VA, vc, rfl⟩ := own_slice hP.out.2.1
      cases ws with
      | nil =>
        have hS := Lib.hid hP.out.1
        have HFE := Lib.hid hP.out.2.2.1
        have HE7 : Hid (parseR (cutAt 32 l) = (⟨7, n5, false, n6, fs, noCall⟩, ([], bd))) := by unfold Hid; rw [HE.out, HFE.out]; simp [fatesR]
        have HIN := Lib.hid hP.out.2.1
        clear hP HE HFE hg
        cases bd with
        | false =>
          obtain ⟨⟨A0, c0⟩, c1, f1, _⟩ := hS.out.at_
          have x0 := hS.out.x.cell 0
          have zc0 := hS.out.z.cell 0
          have zf0 := hS.out.z.frozen 0
          have zc1 := hS.out.z.cell 1
          have zf1 := hS.out.z.frozen 1
          have zc2 := hS.out.z.cell 2
          have zf2 := hS.out.z.frozen 2
          have zc3 := hS.out.z.cell 3
          have zf3 := hS.out.z.frozen 3
          have zc4 := hS.out.z.cell 4
          have zf4 := hS.out.z.frozen 4
          have zc5 := hS.out.z.cell 5
          have zf5 := hS.out.z.frozen 5
          have zc6 := hS.out.z.cell 6
          have zf6 := hS.out.z.frozen 6
          have zc7 := hS.out.z.cell 7
          have zf7 := hS.out.z.frozen 7
          have zc8 := hS.out.z.cell 8
          have zf8 := hS.out.z.frozen 8
          simp only [List.getElem?_toArray] at x0 zc0 zc1 zc2 zc3 zc4 zc5 zc6 zc7 zc8
          have HD := Lib.hid (hS.out.lay (.int .i64 7) (.int .i64 n5) (.bool false) (.int .i64 n6) (.slice VA fs.length vc) (.int .i64 0) (.int .i64 0) (.int .i64 0) (.string ⟨#[]⟩))
          have hld := step_load _ _ _ _ _ _ _ _ _ _ _ _ hS.out.x
          have HIN2 : Hid (OwnI (lay9 wr w.heap.size (.int .i64 7) (.int .i64 n5) (.bool false) (.int .i64 n6) (.slice VA fs.length vc) (.int .i64 0) (.int .i64 0) (.int .i64 0) (.string ⟨#[]⟩)) w.heap.size (.slice VA fs.length vc) fs) := ints_fr HD.out.2.2 hS.out.z (by decide) HIN.out
          simp only [List.length_nil] at c0
          go_wp2_with fail
          refine bodyPost_ret (step_results rfl _ _ _ _ _ _ _ _ _ _ _ _ _ _ rfl rfl HD.out.1) rfl ?_
          exact post_ok HE7.out (.slice VA fs.length vc) HIN2.out HD.out.2.1
        | true =>
          obtain ⟨⟨A0, c0⟩, c1, f1, _⟩ := hS.out.at_
          have x0 := hS.out.x.cell 0
          have zc0 := hS.out.z.cell 0
          have zf0 := hS.out.z.frozen 0
          have zc1 := hS.out.z.cell 1
          have zf1 := hS.out.z.frozen 1
          have zc2 := hS.out.z.cell 2
          have zf2 := hS.out.z.frozen 2
          have zc3 := hS.out.z.cell 3
          have zf3 := hS.out.z.frozen 3
          have zc4 := hS.out.z.cell 4
          have zf4 := hS.out.z.frozen 4
          have zc5 := hS.out.z.cell 5
          have zf5 := hS.out.z.frozen 5
          have zc6 := hS.out.z.cell 6
          have zf6 := hS.out.z.frozen 6
          have zc7 := hS.out.z.cell 7
          have zf7 := hS.out.z.frozen 7
          have zc8 := hS.out.z.cell 8
          have zf8 := hS.out.z.frozen 8
          simp only [List.getElem?_toArray] at x0 zc0 zc1 zc2 zc3 zc4 zc5 zc6 zc7 zc8
          have HD := Lib.hid (hS.out.lay (.int .i64 0) (.int .i64 0) (.bool false) (.int .i64 0) (.slice none 0 0) (.int .i64 0) (.int .i64 0) (.int .i64 0) (.string ⟨#[]⟩))
          go_wp2_with fail
          refine bodyPost_ret (step_results rfl _ _ _ _ _ _ _ _ _ _ _ _ _ _ rfl rfl HD.out.1) rfl ?_
          exact post_bad HE7.out rfl HD.out.2.1
      | cons y ws =>
        have hS := Lib.hid hP.out.1
        obtain ⟨⟨A0, c0⟩, c1, f1, _⟩ := hS.out.at_
        have x0 := hS.out.x.cell 0
        have x4 := hS.out.x.cell 4
        have xf4 := hS.out.x.frozen 4
        simp only [List.getElem?_toArray] at x0 x4
        try simp only [List.length_cons] at c0
        have hg2 : ws.length + 1 ≤ gk := by simpa using hg
        clear hg
        have hlen : fs.length ≤ 1048576 := by have a1 := hP.out.2.2.2; have a2 := HQ6.out; simp only [List.length_cons] at a1; omega
        go_upto_region 22 with fail
        have hO := Lib.hid hP.out.2.1
        have HFE := Lib.hid hP.out.2.2
        have HNR := Lib.hid (fun (W : World) (h : PSt w W p w.heap.size bx (y :: ws, bd) #[.int .i64 7, .int .i64 n5, .bool false, .int .i64 n6, .slice VA fs.length vc, .int .i64 0, .int .i64 0, .int .i64 0, .string ⟨#[]⟩]) => rnum_any W p (y :: ws, bd) h.rd h.tabs h.h8p)
        clear hP
        go_region_law (first
          | (refine step_appI rfl _ _ rfl w.heap.size (.slice VA fs.length vc) fs (atoiV y) rfl ?ho ⟨w9.heap.size, 0, none⟩ rfl ?hc hlen ?hlo ?_
             case ho => first | exact O9.out.alloc _ | exact (O9.out.drew).alloc _ | exact (O9.out.alloc _).drew
             case hc => exact (Blk.new w9 3 #[.int .i64 (atoiV y)]).cell 0
             case hlo => have := S9.out.fr.size; simp; omega
             intro A3 c3 w3 hown3 hg3
             have O3 := Lib.hid hown3
             have S3 := Lib.hid ((S9.out.alloc (.cells #[.int .i64 (atoiV y)] 3)).grown (O9.out.alloc _) hg3)
             have x43 := S3.out.x.cell 4
             have xf43 := S3.out.x.frozen 4
             simp only [List.getElem?_toArray] at x43
             clear hown3 hg3)
          | (go_simp; go_at_call 50; refine (HNR.out _ hS.out.drew).mono ?_; rintro e w9 ⟨rfl, h9, f9⟩
             rw [num_step] at h9 ⊢
             have S9 := Lib.hid (hS.out.drew.step h9 f9)
             have O9 := Lib.hid (own_fr hO.out ((Fr.refl _ _).drew.trans f9 (Sub.refl _ _)) (fun g hg e => own_blk_ne hO.out hS.out.rd.blk (by decide) (by rw [hg, show g = p from e])))
             have x49 := S9.out.x.cell 4
             have x49b := (S9.out.alloc (.cells #[.int .i64 (atoiV y)] 3)).x.cell 4
             simp only [List.getElem?_toArray] at x49 x49b
             clear h9 f9))
        all_goals
          go_wp2_with fail
          go_roundg ws.length
          case measure => omega
          case rel =>
            refine ⟨ws, bd || !numOk y, fs ++ [atoiV y], _, Nat.le_refl _, S3.out.set 4 _, ?_, ?_, ?_⟩
            · exact own_fr O3.out ((Fr.refl (One bx) _).one 4 _) (fun g hg e => own_blk_ne O3.out S3.out.x (by decide) (by rw [hg, show g = bx from e]))
            · rw [HFE.out.1]; simp [fatesR]
            · have := HFE.out.2; simp at this ⊢; omega
  · have HE : Hid (parseR (cutAt 32 l) = (⟨8, (numR q).1, false, 0, [], noCall⟩, (numR q).2)) := by unfold Hid; rw [HPR.out]; rfl
    clear HPR
    obtain ⟨⟨A0, c0⟩, c1, f1, _⟩ := S4.out.at_
    have x0 := S4.out.x.cell 0
    simp only [List.getElem?_toArray] at x0
    go_wp2_with fail
    refine (rnum_any _ p _ S4.out.rd S4.out.tabs S4.out.h8p).mono ?_
    rintro e w5 ⟨rfl, h5, f5⟩
    have S5 := Lib.hid (S4.out.step h5 f5)
    clear h5 f5
    clear c0 c1 f1 x0
    obtain ⟨n5, hn⟩ : ∃ n5, (numR q).1 = n5 := ⟨_, rfl⟩
    rw [hn]
    rw [hn] at HE
    clear hn
    obtain ⟨r5, hr⟩ : ∃ r5, (numR q).2 = r5 := ⟨_, rfl⟩
    rw [hr] at HE S5
    clear hr
    have T5 : Hid (PSt w (w5.setCell ⟨bx, 1, none⟩ (.int .i64 n5)) p w.heap.size bx r5 #[.int .i64 8, .int .i64 n5, .bool false, .int .i64 0, .slice none 0 0, .int .i64 0, .int .i64 0, .int .i64 0, .string ⟨#[]⟩]) := (S5.out.set 1 (.int .i64 n5))
    rcases rd_of r5 with rfl | ⟨l9, rfl⟩ | ⟨y9, ys9, rfl⟩
    · obtain ⟨⟨A0, c0⟩, c1, f1, _⟩ := S5.out.at_
      have x0 := S5.out.x.cell 0
      have x1 := S5.out.x.cell 1
      have xf1 := S5.out.x.frozen 1
      have zc0 := S5.out.z.cell 0
      have zf0 := S5.out.z.frozen 0
      have zc1 := S5.out.z.cell 1
      have zf1 := S5.out.z.frozen 1
      have zc2 := S5.out.z.cell 2
      have zf2 := S5.out.z.frozen 2
      have zc3 := S5.out.z.cell 3
      have zf3 := S5.out.z.frozen 3
      have zc4 := S5.out.z.cell 4
      have zf4 := S5.out.z.frozen 4
      have zc5 := S5.out.z.cell 5
      have zf5 := S5.out.z.frozen 5
      have zc6 := S5.out.z.cell 6
      have zf6 := S5.out.z.frozen 6
      have zc7 := S5.out.z.cell 7
      have zf7 := S5.out.z.frozen 7
      have zc8 := S5.out.z.cell 8
      have zf8 := S5.out.z.frozen 8
      simp only [List.getElem?_toArray] at x0 x1 zc0 zc1 zc2 zc3 zc4 zc5 zc6 zc7 zc8
      have HD := Lib.hid (T5.out.lay (.int .i64 8) (.int .i64 n5) (.bool false) (.int .i64 0) (.slice none 0 0) (.int .i64 0) (.int .i64 0) (.int .i64 0) (.string ⟨#[]⟩))
      have hld := step_load _ _ _ _ _ _ _ _ _ _ _ _ T5.out.x
      go_wp2_with fail
      refine bodyPost_ret (step_results rfl _ _ _ _ _ _ _ _ _ _ _ _ _ _ rfl rfl HD.out.1) rfl ?_
      exact post_ok HE.out (.slice none 0 0) (OwnI.nil _ _) HD.out.2.1
    · obtain ⟨⟨A0, c0⟩, c1, f1, _⟩ := S5.out.at_
      have x0 := S5.out.x.cell 0
      have x1 := S5.out.x.cell 1
      have xf1 := S5.out.x.frozen 1
      have zc0 := S5.out.z.cell 0
      have zf0 := S5.out.z.frozen 0
      have zc1 := S5.out.z.cell 1
      have zf1 := S5.out.z.frozen 1
      have zc2 := S5.out.z.cell 2
      have zf2 := S5.out.z.frozen 2
      have zc3 := S5.out.z.cell 3
      have zf3 := S5.out.z.frozen 3
      have zc4 := S5.out.z.cell 4
      have zf4 := S5.out.z.frozen 4
      have zc5 := S5.out.z.cell 5
      have zf5 := S5.out.z.frozen 5
      have zc6 := S5.out.z.cell 6
      have zf6 := S5.out.z.frozen 6
      have zc7 := S5.out.z.cell 7
      have zf7 := S5.out.z.frozen 7
      have zc8 := S5.out.z.cell 8
      have zf8 := S5.out.z.frozen 8
      simp only [List.getElem?_toArray] at x0 x1 zc0 zc1 zc2 zc3 zc4 zc5 zc6 zc7 zc8
      have HD := Lib.hid (T5.out.lay (.int .i64 0) (.int .i64 0) (.bool false) (.int .i64 0) (.slice none 0 0) (.int .i64 0) (.int .i64 0) (.int .i64 0) (.string ⟨#[]⟩))
      skip
      go_wp2_with fail
      refine bodyPost_ret (step_results rfl _ _ _ _ _ _ _ _ _ _ _ _ _ _ rfl rfl HD.out.1) rfl ?_
      exact post_bad HE.out rfl HD.out.2.1
    · obtain ⟨⟨A0, c0⟩, c1, f1, _⟩ := S5.out.at_
      have x0 := S5.out.x.cell 0
      have x1 := S5.out.x.cell 1
      have xf1 := S5.out.x.frozen 1
      have zc0 := S5.out.z.cell 0
      have zf0 := S5.out.z.frozen 0
      have zc1 := S5.out.z.cell 1
      have zf1 := S5.out.z.frozen 1
      have zc2 := S5.out.z.cell 2
      have zf2 := S5.out.z.frozen 2
      have zc3 := S5.out.z.cell 3
      have zf3 := S5.out.z.frozen 3
      have zc4 := S5.out.z.cell 4
      have zf4 := S5.out.z.frozen 4
      have zc5 := S5.out.z.cell 5
      have zf5 := S5.out.z.frozen 5
      have zc6 := S5.out.z.cell 6
      have zf6 := S5.out.z.frozen 6
      have zc7 := S5.out.z.cell 7
      have zf7 := S5.out.z.frozen 7
      have zc8 := S5.out.z.cell 8
      have zf8 := S5.out.z.frozen 8
      simp only [List.getElem?_toArray] at x0 x1 zc0 zc1 zc2 zc3 zc4 zc5 zc6 zc7 zc8
      have HD := Lib.hid (T5.out.lay (.int .i64 0) (.int .i64 0) (.bool false) (.int .i64 0) (.slice none 0 0) (.int .i64 0) (.int .i64 0) (.int .i64 0) (.string ⟨#[]⟩))
      simp only [List.length_cons] at c0
      go_wp2_with fail
      refine bodyPost_ret (step_results rfl _ _ _ _ _ _ _ _ _ _ _ _ _ _ rfl rfl HD.out.1) rfl ?_
      exact post_bad HE.out rfl HD.out.2.1
  · have HE : Hid (parseR (cutAt 32 l) = (⟨9, 0, false, 0, [], noCall⟩, q)) := by unfold Hid; rw [HPR.out]; rfl
    clear HPR
    rcases rd_of q with rfl | ⟨l9, rfl⟩ | ⟨y9, ys9, rfl⟩
    · obtain ⟨⟨A0, c0⟩, c1, f1, _⟩ := S4.out.at_
      have x0 := S4.out.x.cell 0
      have zc0 := S4.out.z.cell 0
      have zf0 := S4.out.z.frozen 0
      have zc1 := S4.out.z.cell 1
      have zf1 := S4.out.z.frozen 1
      have zc2 := S4.out.z.cell 2
      have zf2 := S4.out.z.frozen 2
      have zc3 := S4.out.z.cell 3
      have zf3 := S4.out.z.frozen 3
      have zc4 := S4.out.z.cell 4
      have zf4 := S4.out.z.frozen 4
      have zc5 := S4.out.z.cell 5
      have zf5 := S4.out.z.frozen 5
      have zc6 := S4.out.z.cell 6
      have zf6 := S4.out.z.frozen 6
      have zc7 := S4.out.z.cell 7
      have zf7 := S4.out.z.frozen 7
      have zc8 := S4.out.z.cell 8
      have zf8 := S4.out.z.frozen 8
      simp only [List.getElem?_toArray] at x0 zc0 zc1 zc2 zc3 zc4 zc5 zc6 zc7 zc8
      have HD := Lib.hid (S4.out.lay (.int .i64 9) (.int .i64 0) (.bool false) (.int .i64 0) (.slice none 0 0) (.int .i64 0) (.int .i64 0) (.int .i64 0) (.string ⟨#[]⟩))
      have hld := step_load _ _ _ _ _ _ _ _ _ _ _ _ S4.out.x
      go_wp2_with fail
      refine bodyPost_ret (step_results rfl _ _ _ _ _ _ _ _ _ _ _ _ _ _ rfl rfl HD.out.1) rfl ?_
      exact post_ok HE.out (.slice none 0 0) (OwnI.nil _ _) HD.out.2.1
    · obtain ⟨⟨A0, c0⟩, c1, f1, _⟩ := S4.out.at_
      have x0 := S4.out.x.cell 0
      have zc0 := S4.out.z.cell 0
      have zf0 := S4.out.z.frozen 0
      have zc1 := S4.out.z.cell 1
      have zf1 := S4.out.z.frozen 1
      have zc2 := S4.out.z.cell 2
      have zf2 := S4.out.z.frozen 2
      have zc3 := S4.out.z.cell 3
      have zf3 := S4.out.z.frozen 3
      have zc4 := S4.out.z.cell 4
      have zf4 := S4.out.z.frozen 4
      have zc5 := S4.out.z.cell 5
      have zf5 := S4.out.z.frozen 5
      have zc6 := S4.out.z.cell 6
      have zf6 := S4.out.z.frozen 6
      have zc7 := S4.out.z.cell 7
      have zf7 := S4.out.z.frozen 7
      have zc8 := S4.out.z.cell 8
      have zf8 := S4.out.z.frozen 8
      simp only [List.getElem?_toArray] at x0 zc0 zc1 zc2 zc3 zc4 zc5 zc6 zc7 zc8
      have HD := Lib.hid (S4.out.lay (.int .i64 0) (.int .i64 0) (.bool false) (.int .i64 0) (.slice none 0 0) (.int .i64 0) (.int .i64 0) (.int .i64 0) (.string ⟨#[]⟩))
      skip
      go_wp2_with fail
      refine bodyPost_ret (step_results rfl _ _ _ _ _ _ _ _ _ _ _ _ _ _ rfl rfl HD.out.1) rfl ?_
      exact post_bad HE.out rfl HD.out.2.1
    · obtain ⟨⟨A0, c0⟩, c1, f1, _⟩ := S4.out.at_
      have x0 := S4.out.x.cell 0
      have zc0 := S4.out.z.cell 0
      have zf0 := S4.out.z.frozen 0
      have zc1 := S4.out.z.cell 1
      have zf1 := S4.out.z.frozen 1
      have zc2 := S4.out.z.cell 2
      have zf2 := S4.out.z.frozen 2
      have zc3 := S4.out.z.cell 3
      have zf3 := S4.out.z.frozen 3
      have zc4 := S4.out.z.cell 4
      have zf4 := S4.out.z.frozen 4
      have zc5 := S4.out.z.cell 5
      have zf5 := S4.out.z.frozen 5
      have zc6 := S4.out.z.cell 6
      have zf6 := S4.out.z.frozen 6
      have zc7 := S4.out.z.cell 7
      have zf7 := S4.out.z.frozen 7
      have zc8 := S4.out.z.cell 8
      have zf8 := S4.out.z.frozen 8
      simp only [List.getElem?_toArray] at x0 zc0 zc1 zc2 zc3 zc4 zc5 zc6 zc7 zc8
      have HD := Lib.hid (S4.out.lay (.int .i64 0) (.int .i64 0) (.bool false) (.int .i64 0) (.slice none 0 0) (.int .i64 0) (.int .i64 0) (.int .i64 0) (.string ⟨#[]⟩))
      simp only [List.length_cons] at c0
      go_wp2_with fail
      refine bodyPost_ret (step_results rfl _ _ _ _ _ _ _ _ _ _ _ _ _ _ rfl rfl HD.out.1) rfl ?_
      exact post_bad HE.out rfl HD.out.2.1
  · have HE : Hid (parseR (cutAt 32 l) = (⟨10, 0, false, 0, [], noCall⟩, q)) := by unfold Hid; rw [HPR.out]; rfl
    clear HPR
    rcases rd_of q with rfl | ⟨l9, rfl⟩ | ⟨y9, ys9, rfl⟩
    · obtain ⟨⟨A0, c0⟩, c1, f1, _⟩ := S4.out.at_
      have x0 := S4.out.x.cell 0
      have zc0 := S4.out.z.cell 0
      have zf0 := S4.out.z.frozen 0
      have zc1 := S4.out.z.cell 1
      have zf1 := S4.out.z.frozen 1
      have zc2 := S4.out.z.cell 2
      have zf2 := S4.out.z.frozen 2
      have zc3 := S4.out.z.cell 3
      have zf3 := S4.out.z.frozen 3
      have zc4 := S4.out.z.cell 4
      have zf4 := S4.out.z.frozen 4
      have zc5 := S4.out.z.cell 5
      have zf5 := S4.out.z.frozen 5
      have zc6 := S4.out.z.cell 6
      have zf6 := S4.out.z.frozen 6
      have zc7 := S4.out.z.cell 7
      have zf7 := S4.out.z.frozen 7
      have zc8 := S4.out.z.cell 8
      have zf8 := S4.out.z.frozen 8
      simp only [List.getElem?_toArray] at x0 zc0 zc1 zc2 zc3 zc4 zc5 zc6 zc7 zc8
      have HD := Lib.hid (S4.out.lay (.int .i64 10) (.int .i64 0) (.bool false) (.int .i64 0) (.slice none 0 0) (.int .i64 0) (.int .i64 0) (.int .i64 0) (.string ⟨#[]⟩))
      have hld := step_load _ _ _ _ _ _ _ _ _ _ _ _ S4.out.x
      go_wp2_with fail
      refine bodyPost_ret (step_results rfl _ _ _ _ _ _ _ _ _ _ _ _ _ _ rfl rfl HD.out.1) rfl ?_
      exact post_ok HE.out (.slice none 0 0) (OwnI.nil _ _) HD.out.2.1
    · obtain ⟨⟨A0, c0⟩, c1, f1, _⟩ := S4.out.at_
      have x0 := S4.out.x.cell 0
      have zc0 := S4.out.z.cell 0
      have zf0 := S4.out.z.frozen 0
      have zc1 := S4.out.z.cell 1
      have zf1 := S4.out.z.frozen 1
      have zc2 := S4.out.z.cell 2
      have zf2 := S4.out.z.frozen 2
      have zc3 := S4.out.z.cell 3
      have zf3 := S4.out.z.frozen 3
      have zc4 := S4.out.z.cell 4
      have zf4 := S4.out.z.frozen 4
      have zc5 := S4.out.z.cell 5
      have zf5 := S4.out.z.frozen 5
      have zc6 := S4.out.z.cell 6
      have zf6 := S4.out.z.frozen 6
      have zc7 := S4.out.z.cell 7
      have zf7 := S4.out.z.frozen 7
      have zc8 := S4.out.z.cell 8
      have zf8 := S4.out.z.frozen 8
      simp only [List.getElem?_toArray] at x0 zc0 zc1 zc2 zc3 zc4 zc5 zc6 zc7 zc8
      have HD := Lib.hid (S4.out.lay (.int .i64 0) (.int .i64 0) (.bool false) (.int .i64 0) (.slice none 0 0) (.int .i64 0) (.int .i64 0) (.int .i64 0) (.string ⟨#[]⟩))
      skip
      go_wp2_with fail
      refine bodyPost_ret (step_results rfl _ _ _ _ _ _ _ _ _ _ _ _ _ _ rfl rfl HD.out.1) rfl ?_
      exact post_bad HE.out rfl HD.out.2.1
    · obtain ⟨⟨A0, c0⟩, c1, f1, _⟩ := S4.out.at_
      have x0 := S4.out.x.cell 0
      have zc0 := S4.out.z.cell 0
      have zf0 := S4.out.z.frozen 0
      have zc1 := S4.out.z.cell 1
      have zf1 := S4.out.z.frozen 1
      have zc2 := S4.out.z.cell 2
      have zf2 := S4.out.z.frozen 2
      have zc3 := S4.out.z.cell 3
      have zf3 := S4.out.z.frozen 3
      have zc4 := S4.out.z.cell 4
      have zf4 := S4.out.z.frozen 4
      have zc5 := S4.out.z.cell 5
      have zf5 := S4.out.z.frozen 5
      have zc6 := S4.out.z.cell 6
      have zf6 := S4.out.z.frozen 6
      have zc7 := S4.out.z.cell 7
      have zf7 := S4.out.z.frozen 7
      have zc8 := S4.out.z.cell 8
      have zf8 := S4.out.z.frozen 8
      simp only [List.getElem?_toArray] at x0 zc0 zc1 zc2 zc3 zc4 zc5 zc6 zc7 zc8
      have HD := Lib.hid (S4.out.lay (.int .i64 0) (.int .i64 0) (.bool false) (.int .i64 0) (.slice none 0 0) (.int .i64 0) (.int .i64 0) (.int .i64 0) (.string ⟨#[]⟩))
      simp only [List.length_cons] at c0
      go_wp2_with fail
      refine bodyPost_ret (step_results rfl _ _ _ _ _ _ _ _ _ _ _ _ _ _ rfl rfl HD.out.1) rfl ?_
      exact post_bad HE.out rfl HD.out.2.1

end Go.Proofs.YtbikplckehbcnaaDoor
