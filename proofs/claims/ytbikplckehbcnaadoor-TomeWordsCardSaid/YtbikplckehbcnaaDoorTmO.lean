/- tome.called, tome.written: the walks. -/
import Derived.Test.YtbikplckehbcnaaDoorTmP
import Derived.Deep.RegionLaw
import Derived.Deep.Cut
set_option linter.unusedVariables false
set_option linter.unusedSimpArgs false
namespace Go.Proofs.YtbikplckehbcnaaDoor
open Go Go.RowKit

def strC (ws : List Bs) : List Value := ws.map fun x => Value.string (ba x)
theorem strC_app (a b : List Bs) : strC (a ++ b) = strC a ++ strC b := by simp [strC]
theorem strC_len (a : List Bs) : (strC a).length = a.length := by simp [strC]
/-- The texts ws lie behind v. -/
def Strs (w : World) (v : Value) (ws : List Bs) : Prop :=
  ∃ A c, v = .slice A ws.length c ∧ (0 < ws.length → ∃ b off, A = some ⟨b, off, none⟩ ∧ b < w.heap.size ∧ ∀ (j : Nat) (x : Bs), ws[j]? = some x → w.cell? ⟨b, off + j, none⟩ = some (.string (ba x)))
theorem Strs.own {w : World} {base : Nat} {v : Value} {ws : List Bs} (h : w.ownsRow base 9 1 v ws.length (strC ws)) : Strs w v ws := by
  rcases h.2 with ⟨rfl, h0⟩ | ⟨g, cap, cur, rfl, _, hg, h1, h2, h3, h4⟩
  · obtain rfl := List.length_eq_zero_iff.1 h0
    exact ⟨none, 0, rfl, fun h => by simp at h⟩
  · refine ⟨_, _, rfl, fun _ => ⟨g, 0, rfl, (Array.getElem?_eq_some_iff.1 hg).1, fun j n hj => ?_⟩⟩
    rw [Nat.zero_add, cell_of_row w g j cur _ _ hg]
    have hjl := (List.getElem?_eq_some_iff.1 hj).1
    have e : (cur.toList.take (ws.length * 1))[j]? = (strC ws)[j]? := by rw [h4]
    rw [List.getElem?_take, if_pos (by omega), strC, List.getElem?_map, hj] at e
    rw [← Array.getElem?_toList, e]
    rfl

theorem str_info : (Tryd.prog.info? 9).map (fun i => (i.zero, i.size, i.bytes)) = some (some (.string ⟨#[]⟩), 1, 16) := by kernel_rfl
theorem run_appStr (W : World) (ty : TypeId) (base : Nat) (v : Value) (ws : List Bs) (hown : W.ownsRow base 9 1 v ws.length (strC ws)) (ad : Addr) (ys : List Bs) (m c : Nat) (hm : m = ys.length)
    (hc : ∀ (j : Nat) (y : Bs), ys[j]? = some y → W.cell? (ad.add j) = some (.string (ba y))) (hl : ws.length ≤ 1048576) (hl2 : ys.length ≤ 1048576) (hlo : base ≤ W.heap.size) :
    ∃ v' w', (Builtin.append_ #[97, 97] ty #[v, .slice (some ad) m c]).run Tryd.prog W = .ok v' w' ∧ w'.ownsRow base 9 1 v' (ws ++ ys).length (strC (ws ++ ys)) ∧ W.grownBy w' v.ownBlock := by
  subst hm
  obtain ⟨i0, hi, hz⟩ := Option.map_eq_some_iff.1 str_info
  simp only [Prod.mk.injEq] at hz
  obtain ⟨v', w', hr, h2, h3, _⟩ := run_append_own_at (P := Tryd.prog) W base 97 ty 9 i0 (.string ⟨#[]⟩) 1 16 Tryd.underlying97 hi hz.1 hz.2.1 hz.2.2 rfl (by omega) v ws.length (strC ws) hown ad ys.length c (strC ys) (by rw [strC_len]; omega)
    (fun j u hu => by
      rw [strC, List.getElem?_map] at hu
      obtain ⟨y, hy, rfl⟩ := Option.map_eq_some_iff.1 hu
      exact hc j y hy) (by intro u hu; obtain ⟨y, _, rfl⟩ := List.mem_map.1 hu; rfl) (by simp only [maxLen]; omega) (by omega) hlo
  exact ⟨v', w', hr, by rw [List.length_append, strC_app]; exact h2, h3⟩
theorem wpList_appStr {ops : Array Oper} {rest : List Oper} {o : Oper} {a : Act} {W : World} {Q : Exit → Act → World → Prop} (hgd : o.guard = none) (s x : Operand)
    (ho : o.op = .call { callee := .builtin .append, args := #[s, x], argTypes := #[97, 97] })
    (base : Nat) (v : Value) (ws : List Bs) (hs : a.eval s = v) (hown : W.ownsRow base 9 1 v ws.length (strC ws)) (ad : Addr) (ys : List Bs) (m c : Nat) (hx : a.eval x = .slice (some ad) m c) (hm : m = ys.length)
    (hc : ∀ (j : Nat) (y : Bs), ys[j]? = some y → W.cell? (ad.add j) = some (.string (ba y))) (hl : ws.length ≤ 1048576) (hl2 : ys.length ≤ 1048576) (hlo : base ≤ W.heap.size)
    (h : ∀ (v' : Value) (w' : World), w'.ownsRow base 9 1 v' (ws ++ ys).length (strC (ws ++ ys)) → W.grownBy w' v.ownBlock → wpList Tryd.prog ops Q rest (a.put o.dst v') w') : wpList Tryd.prog ops Q (o :: rest) a W := by
  obtain ⟨v', w', hr, h2, h3⟩ := run_appStr W o.type base v ws hown ad ys m c hm hc hl hl2 hlo
  refine wpList_plain hgd fun _ hK => ?_
  unfold Oper.wp execOp
  simp only [ho, resolve, invoke, builtin, Sem.run_bind, Sem.run_pure, Result.andThen_ok, List.map_toArray, List.map_cons, List.map_nil, hs, hx, hr]
  exact hK _ _ (h v' w' h2 h3)
theorem step_appStr {ops : Array Oper} {o : Oper} {a : Act} {W : World} {K : Act → World → Prop} {Q : Exit → Act → World → Prop} {E : Prop} (hgd : o.guard = none) (s x : Operand)
    (ho : o.op = .call { callee := .builtin .append, args := #[s, x], argTypes := #[97, 97] })
    (base : Nat) (v : Value) (ws : List Bs) (hs : a.eval s = v) (hown : W.ownsRow base 9 1 v ws.length (strC ws)) (ad : Addr) (ys : List Bs) (m c : Nat) (hx : a.eval x = .slice (some ad) m c) (hm : m = ys.length)
    (hc : ∀ (j : Nat) (y : Bs), ys[j]? = some y → W.cell? (ad.add j) = some (.string (ba y))) (hl : ws.length ≤ 1048576) (hl2 : ys.length ≤ 1048576) (hlo : base ≤ W.heap.size)
    (h : ∀ (v' : Value) (w' : World), w'.ownsRow base 9 1 v' (ws ++ ys).length (strC (ws ++ ys)) → W.grownBy w' v.ownBlock → K (a.put o.dst v') w') :
    if Region.wanted o (yielded ops a.tmps) = true then Oper.wp Tryd.prog o a W K Q else E := by
  rw [if_pos (by simp [Region.wanted, hgd])]
  obtain ⟨v', w', hr, h2, h3⟩ := run_appStr W o.type base v ws hown ad ys m c hm hc hl hl2 hlo
  unfold Oper.wp execOp
  simp only [ho, resolve, invoke, builtin, Sem.run_bind, Sem.run_pure, Result.andThen_ok, List.map_toArray, List.map_cons, List.map_nil, hs, hx, hr]
  exact h v' w' h2 h3

/-- The state while words are collected: what came in, boxed; the words so far. -/
structure OSt (w wr : World) (t : TypeId) (cs : Array Value) (v : Value) (ws : List Bs) : Prop where
  x : Blk wr w.heap.size t cs
  own : wr.ownsRow (w.heap.size + 1) 9 1 v ws.length (strC ws)
  fr : Below w.heap.size w wr
  tabs : Tabs wr
  h8 : 8 ≤ w.heap.size
  ht : t ≠ 9
theorem OSt.below {w wr w2 : World} {t : TypeId} {cs : Array Value} {v : Value} {ws : List Bs} (h : OSt w wr t cs v ws) (hb : Below wr.heap.size wr w2) : OSt w w2 t cs v ws :=
  ⟨h.x.below hb h.x.lt, own_fr (F := Nope) h.own ((Fr.refl _ _).below hb) (fun _ _ h => h.elim), h.fr.trans (hb.mono h.fr.size), h.tabs.below h.tabs.size hb, h.h8, h.ht⟩
theorem OSt.alloc {w wr : World} {t : TypeId} {cs : Array Value} {v : Value} {ws : List Bs} (h : OSt w wr t cs v ws) (o : Obj) : OSt w (wr.alloc o) t cs v ws := h.below ((Below.refl _ _).alloc (Nat.le_refl _) _)
theorem OSt.drew {w wr : World} {t : TypeId} {cs : Array Value} {v : Value} {ws : List Bs} (h : OSt w wr t cs v ws) : OSt w wr.drew t cs v ws := h.below ((Below.refl _ _).drew)
theorem OSt.grown {w wr w2 : World} {t : TypeId} {cs : Array Value} {v v' : Value} {ws ws' : List Bs} (h : OSt w wr t cs v ws) (ho : w2.ownsRow (w.heap.size + 1) 9 1 v' ws'.length (strC ws')) (hg : wr.grownBy w2 v.ownBlock) : OSt w w2 t cs v' ws' := by
  have hf : Fr (fun k => v.ownBlock = some k) wr w2 := (Fr.refl _ _).grown hg (fun k hk => .inl hk)
  have hge := own_row_ge h.own
  exact ⟨h.x.fr hf (fun e => by have := hge _ e; omega), ho, h.fr.trans (hf.toBelow h.fr.size (fun k hk => by have := hge _ hk; omega)), h.tabs.fr hf (fun b hb e => by have := hge _ e; have := h.h8; omega), h.h8, h.ht⟩
theorem OSt.base {w wr : World} {t : TypeId} {cs : Array Value} {v : Value} {ws : List Bs} (h : OSt w wr t cs v ws) : w.heap.size + 1 ≤ wr.heap.size := h.x.lt
/-- One word lies in a new block. -/
theorem one_word (wr : World) (y : Bs) (j : Nat) (z : Bs) (h : [y][j]? = some z) : (wr.alloc (.cells #[.string (ba y)] 9)).cell? (Addr.add ⟨wr.heap.size, 0, none⟩ j) = some (.string (ba z)) := by
  match j, h with
  | 0, h =>
    obtain rfl : y = z := by simpa using h
    exact (Blk.new wr 9 #[.string (ba y)]).cell 0

def inI (n : Int) : Prop := -9223372036854775808 ≤ n ∧ n ≤ 9223372036854775807

set_option maxRecDepth 100000 in
set_option maxHeartbeats 4000000 in
theorem called_any (c : ClP) (hk : inI c.kind) (hp : inI c.page) (hs : inI c.slot) (hd : c.data.length ≤ 1000000) (w : World) (hT : Tabs w) :
    Calls Tryd.prog 94 #[.agg (clC c)] w fun e w' => (∃ v, e = .returned v ∧ w'.ownsRow (w.heap.size + 1) 9 1 v (calledP c).length (strC (calledP c))) ∧ Below w.heap.size w w' := by
  obtain ⟨k, pg, sl, dt⟩ := c
  have HP : Hid (inI pg) := hp
  have HS : Hid (inI sl) := hs
  have HD : Hid (dt.length ≤ 1000000) := hd
  have HK : Hid (inI k) := hk
  have hT0 := hT.size
  have HT := Lib.hid hT
  have S0 : Hid (OSt w (w.alloc (.cells #[.int .i64 k, .int .i64 pg, .int .i64 sl, .string (ba dt)] 58)) 58 #[.int .i64 k, .int .i64 pg, .int .i64 sl, .string (ba dt)] (.slice none 0 0) []) :=
    ⟨Blk.new _ _ _, World.ownsRow_nil _ _ _ _, (Below.refl _ _).alloc (Nat.le_refl _) _, hT.below hT.size ((Below.refl _ _).alloc (Nat.le_refl _) _), hT.size, by decide⟩
  clear hk hp hs hd hT
  show Calls _ _ #[.agg #[.int .i64 k, .int .i64 pg, .int .i64 sl, .string (ba dt)]] w _
  go_enter Tryd.func94, Tryd.ntmps94
  go_wp2_with fail
  refine (wordOf_any callT_is k HK.out.1 HK.out.2 _ S0.out.tabs).mono ?_
  rintro e w1 ⟨rfl, b1⟩
  obtain ⟨y, hy⟩ : ∃ y, wordAt callW k = y := ⟨_, rfl⟩
  rw [hy]
  have HY := Lib.hid hy
  have S1 : Hid (OSt w (w1.alloc (.cells #[.string (ba y)] 9)) 58 #[.int .i64 k, .int .i64 pg, .int .i64 sl, .string (ba dt)] (.slice (some ⟨w1.heap.size, 0, none⟩) 1 1) [y]) := by
    have h := (S0.out.below b1).alloc (.cells #[.string (ba y)] 9)
    exact ⟨h.x, ⟨rfl, .inr ⟨w1.heap.size, 1, _, rfl, (S0.out.below b1).base, Blk.new _ _ _, Nat.le_refl _, by decide, rfl, rfl⟩⟩, h.fr, h.tabs, h.h8, h.ht⟩
  clear b1 hy S0 HT
  go_upto_region 2 with fail
  revert S1
  generalize w1.alloc (.cells #[.string (ba y)] 9) = W1
  generalize Value.slice (some ⟨w1.heap.size, 0, none⟩) 1 1 = v1
  intro S1
  have x0 := S1.out.x.cell 0
  have x1 := S1.out.x.cell 1
  have x2 := S1.out.x.cell 2
  have x3 := S1.out.x.cell 3
  simp only [List.getElem?_toArray] at x0 x1 x2 x3
  have hks : k < 2 ∨ k = 2 ∨ k = 3 ∨ k = 4 ∨ k = 5 ∨ k = 6 ∨ k = 7 ∨ 7 < k := by omega
  rcases hks with hk | hk | hk | hk | hk | hk | hk | hk
  · have HCL : Hid (calledP ⟨k, pg, sl, dt⟩ = [y]) := by
      have e1 : pagedP k = false := by unfold pagedP; rw [Bool.and_eq_false_iff]; simp only [decide_eq_false_iff_not]; omega
      have e2 : slotP k = false := by unfold slotP; rw [e1]; simp; omega
      have e3 : dataP k = false := by unfold dataP; simp; omega
      unfold Hid calledP; rw [← HY.out]; simp only [e1, e2, e3]; rfl
    have e3 : (k == 3) = false := by rw [beq_eq_false_iff_ne]; omega
    have e4 : (k == 4) = false := by rw [beq_eq_false_iff_ne]; omega
    have e7 : (k == 7) = false := by rw [beq_eq_false_iff_ne]; omega
    go_wp2_with fail
    go_ret
    refine ⟨⟨_, rfl, ?_⟩, S1.out.fr⟩
    rw [HCL.out]
    exact S1.out.own
  · subst hk
    have HCL : Hid (calledP ⟨2, pg, sl, dt⟩ = [y, Lib.itoa pg, Lib.itoa sl]) := by unfold Hid; rw [← HY.out]; rfl
    go_wp2_with fail
    refine (itoa_any _ HP.out.1 HP.out.2 _ S1.out.tabs).mono ?_
    rintro e u5 ⟨rfl, b5⟩
    have P5 := Lib.hid (S1.out.below b5)
    clear b5
    clear x0 x1 x2 x3
    have x0 := P5.out.x.cell 0
    have x1 := P5.out.x.cell 1
    have x2 := P5.out.x.cell 2
    have x3 := P5.out.x.cell 3
    simp only [List.getElem?_toArray] at x0 x1 x2 x3
    go_wp2_with (at_builtin; refine wpList_appStr rfl _ _ rfl (w.heap.size + 1) _ [y] rfl (P5.out.alloc _).own ⟨u5.heap.size, 0, none⟩ [(Lib.itoa pg)] 1 1 rfl rfl (one_word _ _) (by simp) (by simp) (by have := P5.out.base; simp; omega) ?_; intro t5 q5 ho5 hg5; have Q5 := Lib.hid ((P5.out.alloc (.cells #[.string (ba (Lib.itoa pg))] 9)).grown ho5 hg5); have z0 := Q5.out.x.cell 0; have z1 := Q5.out.x.cell 1; have z2 := Q5.out.x.cell 2; have z3 := Q5.out.x.cell 3; simp only [List.getElem?_toArray] at z0 z1 z2 z3; clear ho5 hg5)
    refine (itoa_any _ HS.out.1 HS.out.2 _ Q5.out.tabs).mono ?_
    rintro e u6 ⟨rfl, b6⟩
    have P6 := Lib.hid (Q5.out.below b6)
    clear b6
    clear z0 z1 z2 z3 x0 x1 x2 x3
    have x0 := P6.out.x.cell 0
    have x1 := P6.out.x.cell 1
    have x2 := P6.out.x.cell 2
    have x3 := P6.out.x.cell 3
    simp only [List.getElem?_toArray] at x0 x1 x2 x3
    go_wp2_with (at_builtin; refine wpList_appStr rfl _ _ rfl (w.heap.size + 1) _ ([y] ++ [(Lib.itoa pg)]) rfl (P6.out.alloc _).own ⟨u6.heap.size, 0, none⟩ [(Lib.itoa sl)] 1 1 rfl rfl (one_word _ _) (by simp) (by simp) (by have := P6.out.base; simp; omega) ?_; intro t6 q6 ho6 hg6; have Q6 := Lib.hid ((P6.out.alloc (.cells #[.string (ba (Lib.itoa sl))] 9)).grown ho6 hg6); have z0 := Q6.out.x.cell 0; have z1 := Q6.out.x.cell 1; have z2 := Q6.out.x.cell 2; have z3 := Q6.out.x.cell 3; simp only [List.getElem?_toArray] at z0 z1 z2 z3; clear ho6 hg6)
    go_ret
    refine ⟨⟨_, rfl, ?_⟩, Q6.out.fr⟩
    rw [HCL.out]
    exact Q6.out.own
  · subst hk
    have HCL : Hid (calledP ⟨3, pg, sl, dt⟩ = [y, Lib.itoa pg, wordP dt]) := by unfold Hid; rw [← HY.out]; rfl
    go_wp2_with fail
    refine (itoa_any _ HP.out.1 HP.out.2 _ S1.out.tabs).mono ?_
    rintro e u5 ⟨rfl, b5⟩
    have P5 := Lib.hid (S1.out.below b5)
    clear b5
    clear x0 x1 x2 x3
    have x0 := P5.out.x.cell 0
    have x1 := P5.out.x.cell 1
    have x2 := P5.out.x.cell 2
    have x3 := P5.out.x.cell 3
    simp only [List.getElem?_toArray] at x0 x1 x2 x3
    go_wp2_with (at_builtin; refine wpList_appStr rfl _ _ rfl (w.heap.size + 1) _ [y] rfl (P5.out.alloc _).own ⟨u5.heap.size, 0, none⟩ [(Lib.itoa pg)] 1 1 rfl rfl (one_word _ _) (by simp) (by simp) (by have := P5.out.base; simp; omega) ?_; intro t5 q5 ho5 hg5; have Q5 := Lib.hid ((P5.out.alloc (.cells #[.string (ba (Lib.itoa pg))] 9)).grown ho5 hg5); have z0 := Q5.out.x.cell 0; have z1 := Q5.out.x.cell 1; have z2 := Q5.out.x.cell 2; have z3 := Q5.out.x.cell 3; simp only [List.getElem?_toArray] at z0 z1 z2 z3; clear ho5 hg5)
    refine (word_any _ (by have := HD.out; omega) _).mono ?_
    rintro e u6 ⟨rfl, b6⟩
    have P6 := Lib.hid (Q5.out.below b6)
    clear b6
    clear z0 z1 z2 z3 x0 x1 x2 x3
    have x0 := P6.out.x.cell 0
    have x1 := P6.out.x.cell 1
    have x2 := P6.out.x.cell 2
    have x3 := P6.out.x.cell 3
    simp only [List.getElem?_toArray] at x0 x1 x2 x3
    go_wp2_with (at_builtin; refine wpList_appStr rfl _ _ rfl (w.heap.size + 1) _ ([y] ++ [(Lib.itoa pg)]) rfl (P6.out.alloc _).own ⟨u6.heap.size, 0, none⟩ [(wordP dt)] 1 1 rfl rfl (one_word _ _) (by simp) (by simp) (by have := P6.out.base; simp; omega) ?_; intro t6 q6 ho6 hg6; have Q6 := Lib.hid ((P6.out.alloc (.cells #[.string (ba (wordP dt))] 9)).grown ho6 hg6); have z0 := Q6.out.x.cell 0; have z1 := Q6.out.x.cell 1; have z2 := Q6.out.x.cell 2; have z3 := Q6.out.x.cell 3; simp only [List.getElem?_toArray] at z0 z1 z2 z3; clear ho6 hg6)
    go_ret
    refine ⟨⟨_, rfl, ?_⟩, Q6.out.fr⟩
    rw [HCL.out]
    exact Q6.out.own
  · subst hk
    have HCL : Hid (calledP ⟨4, pg, sl, dt⟩ = [y, Lib.itoa pg, Lib.itoa sl, wordP dt]) := by unfold Hid; rw [← HY.out]; rfl
    go_wp2_with fail
    refine (itoa_any _ HP.out.1 HP.out.2 _ S1.out.tabs).mono ?_
    rintro e u5 ⟨rfl, b5⟩
    have P5 := Lib.hid (S1.out.below b5)
    clear b5
    clear x0 x1 x2 x3
    have x0 := P5.out.x.cell 0
    have x1 := P5.out.x.cell 1
    have x2 := P5.out.x.cell 2
    have x3 := P5.out.x.cell 3
    simp only [List.getElem?_toArray] at x0 x1 x2 x3
    go_wp2_with (at_builtin; refine wpList_appStr rfl _ _ rfl (w.heap.size + 1) _ [y] rfl (P5.out.alloc _).own ⟨u5.heap.size, 0, none⟩ [(Lib.itoa pg)] 1 1 rfl rfl (one_word _ _) (by simp) (by simp) (by have := P5.out.base; simp; omega) ?_; intro t5 q5 ho5 hg5; have Q5 := Lib.hid ((P5.out.alloc (.cells #[.string (ba (Lib.itoa pg))] 9)).grown ho5 hg5); have z0 := Q5.out.x.cell 0; have z1 := Q5.out.x.cell 1; have z2 := Q5.out.x.cell 2; have z3 := Q5.out.x.cell 3; simp only [List.getElem?_toArray] at z0 z1 z2 z3; clear ho5 hg5)
    refine (itoa_any _ HS.out.1 HS.out.2 _ Q5.out.tabs).mono ?_
    rintro e u6 ⟨rfl, b6⟩
    have P6 := Lib.hid (Q5.out.below b6)
    clear b6
    clear z0 z1 z2 z3 x0 x1 x2 x3
    have x0 := P6.out.x.cell 0
    have x1 := P6.out.x.cell 1
    have x2 := P6.out.x.cell 2
    have x3 := P6.out.x.cell 3
    simp only [List.getElem?_toArray] at x0 x1 x2 x3
    go_wp2_with (at_builtin; refine wpList_appStr rfl _ _ rfl (w.heap.size + 1) _ ([y] ++ [(Lib.itoa pg)]) rfl (P6.out.alloc _).own ⟨u6.heap.size, 0, none⟩ [(Lib.itoa sl)] 1 1 rfl rfl (one_word _ _) (by simp) (by simp) (by have := P6.out.base; simp; omega) ?_; intro t6 q6 ho6 hg6; have Q6 := Lib.hid ((P6.out.alloc (.cells #[.string (ba (Lib.itoa sl))] 9)).grown ho6 hg6); have z0 := Q6.out.x.cell 0; have z1 := Q6.out.x.cell 1; have z2 := Q6.out.x.cell 2; have z3 := Q6.out.x.cell 3; simp only [List.getElem?_toArray] at z0 z1 z2 z3; clear ho6 hg6)
    refine (word_any _ (by have := HD.out; omega) _).mono ?_
    rintro e u7 ⟨rfl, b7⟩
    have P7 := Lib.hid (Q6.out.below b7)
    clear b7
    clear z0 z1 z2 z3 x0 x1 x2 x3
    have x0 := P7.out.x.cell 0
    have x1 := P7.out.x.cell 1
    have x2 := P7.out.x.cell 2
    have x3 := P7.out.x.cell 3
    simp only [List.getElem?_toArray] at x0 x1 x2 x3
    go_wp2_with (at_builtin; refine wpList_appStr rfl _ _ rfl (w.heap.size + 1) _ (([y] ++ [(Lib.itoa pg)]) ++ [(Lib.itoa sl)]) rfl (P7.out.alloc _).own ⟨u7.heap.size, 0, none⟩ [(wordP dt)] 1 1 rfl rfl (one_word _ _) (by simp) (by simp) (by have := P7.out.base; simp; omega) ?_; intro t7 q7 ho7 hg7; have Q7 := Lib.hid ((P7.out.alloc (.cells #[.string (ba (wordP dt))] 9)).grown ho7 hg7); have z0 := Q7.out.x.cell 0; have z1 := Q7.out.x.cell 1; have z2 := Q7.out.x.cell 2; have z3 := Q7.out.x.cell 3; simp only [List.getElem?_toArray] at z0 z1 z2 z3; clear ho7 hg7)
    go_ret
    refine ⟨⟨_, rfl, ?_⟩, Q7.out.fr⟩
    rw [HCL.out]
    exact Q7.out.own
  · subst hk
    have HCL : Hid (calledP ⟨5, pg, sl, dt⟩ = [y, Lib.itoa pg, Lib.itoa sl]) := by unfold Hid; rw [← HY.out]; rfl
    go_wp2_with fail
    refine (itoa_any _ HP.out.1 HP.out.2 _ S1.out.tabs).mono ?_
    rintro e u5 ⟨rfl, b5⟩
    have P5 := Lib.hid (S1.out.below b5)
    clear b5
    clear x0 x1 x2 x3
    have x0 := P5.out.x.cell 0
    have x1 := P5.out.x.cell 1
    have x2 := P5.out.x.cell 2
    have x3 := P5.out.x.cell 3
    simp only [List.getElem?_toArray] at x0 x1 x2 x3
    go_wp2_with (at_builtin; refine wpList_appStr rfl _ _ rfl (w.heap.size + 1) _ [y] rfl (P5.out.alloc _).own ⟨u5.heap.size, 0, none⟩ [(Lib.itoa pg)] 1 1 rfl rfl (one_word _ _) (by simp) (by simp) (by have := P5.out.base; simp; omega) ?_; intro t5 q5 ho5 hg5; have Q5 := Lib.hid ((P5.out.alloc (.cells #[.string (ba (Lib.itoa pg))] 9)).grown ho5 hg5); have z0 := Q5.out.x.cell 0; have z1 := Q5.out.x.cell 1; have z2 := Q5.out.x.cell 2; have z3 := Q5.out.x.cell 3; simp only [List.getElem?_toArray] at z0 z1 z2 z3; clear ho5 hg5)
    refine (itoa_any _ HS.out.1 HS.out.2 _ Q5.out.tabs).mono ?_
    rintro e u6 ⟨rfl, b6⟩
    have P6 := Lib.hid (Q5.out.below b6)
    clear b6
    clear z0 z1 z2 z3 x0 x1 x2 x3
    have x0 := P6.out.x.cell 0
    have x1 := P6.out.x.cell 1
    have x2 := P6.out.x.cell 2
    have x3 := P6.out.x.cell 3
    simp only [List.getElem?_toArray] at x0 x1 x2 x3
    go_wp2_with (at_builtin; refine wpList_appStr rfl _ _ rfl (w.heap.size + 1) _ ([y] ++ [(Lib.itoa pg)]) rfl (P6.out.alloc _).own ⟨u6.heap.size, 0, none⟩ [(Lib.itoa sl)] 1 1 rfl rfl (one_word _ _) (by simp) (by simp) (by have := P6.out.base; simp; omega) ?_; intro t6 q6 ho6 hg6; have Q6 := Lib.hid ((P6.out.alloc (.cells #[.string (ba (Lib.itoa sl))] 9)).grown ho6 hg6); have z0 := Q6.out.x.cell 0; have z1 := Q6.out.x.cell 1; have z2 := Q6.out.x.cell 2; have z3 := Q6.out.x.cell 3; simp only [List.getElem?_toArray] at z0 z1 z2 z3; clear ho6 hg6)
    go_ret
    refine ⟨⟨_, rfl, ?_⟩, Q6.out.fr⟩
    rw [HCL.out]
    exact Q6.out.own
  · subst hk
    have HCL : Hid (calledP ⟨6, pg, sl, dt⟩ = [y]) := by unfold Hid; rw [← HY.out]; rfl
    go_wp2_with fail
    go_ret
    refine ⟨⟨_, rfl, ?_⟩, S1.out.fr⟩
    rw [HCL.out]
    exact S1.out.own
  · subst hk
    have HCL : Hid (calledP ⟨7, pg, sl, dt⟩ = [y, Lib.itoa sl]) := by unfold Hid; rw [← HY.out]; rfl
    go_wp2_with fail
    refine (itoa_any _ HS.out.1 HS.out.2 _ S1.out.tabs).mono ?_
    rintro e u5 ⟨rfl, b5⟩
    have P5 := Lib.hid (S1.out.below b5)
    clear b5
    clear x0 x1 x2 x3
    have x0 := P5.out.x.cell 0
    have x1 := P5.out.x.cell 1
    have x2 := P5.out.x.cell 2
    have x3 := P5.out.x.cell 3
    simp only [List.getElem?_toArray] at x0 x1 x2 x3
    go_wp2_with (at_builtin; refine wpList_appStr rfl _ _ rfl (w.heap.size + 1) _ [y] rfl (P5.out.alloc _).own ⟨u5.heap.size, 0, none⟩ [(Lib.itoa sl)] 1 1 rfl rfl (one_word _ _) (by simp) (by simp) (by have := P5.out.base; simp; omega) ?_; intro t5 q5 ho5 hg5; have Q5 := Lib.hid ((P5.out.alloc (.cells #[.string (ba (Lib.itoa sl))] 9)).grown ho5 hg5); have z0 := Q5.out.x.cell 0; have z1 := Q5.out.x.cell 1; have z2 := Q5.out.x.cell 2; have z3 := Q5.out.x.cell 3; simp only [List.getElem?_toArray] at z0 z1 z2 z3; clear ho5 hg5)
    go_ret
    refine ⟨⟨_, rfl, ?_⟩, Q5.out.fr⟩
    rw [HCL.out]
    exact Q5.out.own
  · have HCL : Hid (calledP ⟨k, pg, sl, dt⟩ = [y]) := by
      have e1 : pagedP k = false := by unfold pagedP; rw [Bool.and_eq_false_iff]; simp only [decide_eq_false_iff_not]; omega
      have e2 : slotP k = false := by unfold slotP; rw [e1]; simp; omega
      have e3 : dataP k = false := by unfold dataP; simp; omega
      unfold Hid calledP; rw [← HY.out]; simp only [e1, e2, e3]; rfl
    have e3 : (k == 3) = false := by rw [beq_eq_false_iff_ne]; omega
    have e4 : (k == 4) = false := by rw [beq_eq_false_iff_ne]; omega
    have e7 : (k == 7) = false := by rw [beq_eq_false_iff_ne]; omega
    go_wp2_with fail
    go_ret
    refine ⟨⟨_, rfl, ?_⟩, S1.out.fr⟩
    rw [HCL.out]
    exact S1.out.own

end Go.Proofs.YtbikplckehbcnaaDoor
