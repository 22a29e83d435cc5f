/- tome's reader: call: the walk. -/
import Derived.Test.YtbikplckehbcnaaDoorTmK
import Derived.Laws.ResultCell
import Derived.Laws.Rows
set_option linter.unusedVariables false
set_option linter.unusedSimpArgs false
namespace Go.Proofs.YtbikplckehbcnaaDoor
open Go Go.RowKit

/-- A call's cells. -/
def clC (c : ClP) : Array Value := #[.int .i64 c.kind, .int .i64 c.page, .int .i64 c.slot, .string (ba c.data)]
theorem call_info : ((Tryd.prog.info? 58).map (·.size)) = some 4 := by kernel_rfl
theorem call_results {fn : Func} {p : Tmp} (h : fn.results = #[.cell p 58]) (tmps : Array Value) (W : World) (g : Nat) (t : TypeId) (a b c d : Value) (hp : tmps.getD p undef = .pointer (some ⟨g, 0, none⟩)) (hb : Blk W g t #[a, b, c, d]) :
    (results fn tmps).run Tryd.prog W = .ok (.agg #[a, b, c, d]) W :=
  results_cell_row h tmps W g t #[a, b, c, d] (0, 0) _ hp hb Tryd.underlying58 rfl call_info

theorem call_load (W : World) (g : Nat) (t : TypeId) (a b c d : Value) (hb : Blk W g t #[a, b, c, d]) : (loadVar 58 ⟨g, 0, none⟩).run Tryd.prog W = .ok (.agg #[a, b, c, d]) W :=
  run_loadVar_row W g t 58 #[a, b, c, d] (0, 0) _ hb Tryd.underlying58 rfl call_info
/-- The state while a call is read: the reader, the two structs of the call's own. -/
structure CSt (w wr : World) (p b0 bx : Nat) (r : Rd) (cs : Array Value) : Prop where
  rd : RdAt wr p r
  z : Blk wr b0 58 #[.int .i64 0, .int .i64 0, .int .i64 0, .string ⟨#[]⟩]
  x : Blk wr bx 58 cs
  fr : Fr (One p) w wr
  tabs : Tabs wr
  h0 : w.heap.size ≤ b0
  hx : w.heap.size ≤ bx
  hp : p < w.heap.size
  ne : b0 ≠ bx
theorem CSt.step {w wr w2 : World} {p b0 bx : Nat} {r r2 : Rd} {cs : Array Value} (h : CSt w wr p b0 bx r cs) (hr : RdAt w2 p r2) (hf : Fr (One p) wr w2) (hp8 : 8 ≤ p) : CSt w w2 p b0 bx r2 cs :=
  ⟨hr, h.z.fr hf (fun e => by have : b0 = p := e; have := h.h0; have := h.hp; omega), h.x.fr hf (fun e => by have : bx = p := e; have := h.hx; have := h.hp; omega), h.fr.trans hf (Sub.refl _ _), h.tabs.one hp8 hf, h.h0, h.hx, h.hp, h.ne⟩
theorem CSt.set {w wr : World} {p b0 bx : Nat} {r : Rd} {cs : Array Value} (h : CSt w wr p b0 bx r cs) (h8 : 8 ≤ p) (i : Nat) (v : Value) : CSt w (wr.setCell ⟨bx, i, none⟩ v) p b0 bx r (cs.setIfInBounds i v) :=
  ⟨h.rd.far h.x (by decide) (by decide) i v, h.z.far (p := ⟨bx, i, none⟩) h.ne _, h.x.set_ i v, h.fr.set (.inr h.hx) i v, h.tabs.fr ((Fr.refl (One bx) wr).one i v) (fun b hb e => by have : b = bx := e; have := h.hx; have := h.hp; omega), h.h0, h.hx, h.hp, h.ne⟩
theorem CSt.bad {w wr : World} {p b0 bx : Nat} {r : Rd} {cs : Array Value} (h : CSt w wr p b0 bx r cs) (h8 : 8 ≤ p) (b : Bool) : CSt w (wr.setCell ⟨p, 1, none⟩ (.bool b)) p b0 bx (r.1, b) cs :=
  h.step (h.rd.bad b) ((Fr.refl _ _).one 1 _) h8
theorem CSt.done {w wr : World} {p b0 bx : Nat} {r : Rd} {a b c d : Value} (h : CSt w wr p b0 bx r #[a, b, c, d]) :
    Blk ((((wr.setCell ⟨b0, 0, none⟩ a).setCell ⟨b0, 1, none⟩ b).setCell ⟨b0, 2, none⟩ c).setCell ⟨b0, 3, none⟩ d) b0 58 #[a, b, c, d] ∧
    RdAt ((((wr.setCell ⟨b0, 0, none⟩ a).setCell ⟨b0, 1, none⟩ b).setCell ⟨b0, 2, none⟩ c).setCell ⟨b0, 3, none⟩ d) p r ∧
    Fr (One p) w ((((wr.setCell ⟨b0, 0, none⟩ a).setCell ⟨b0, 1, none⟩ b).setCell ⟨b0, 2, none⟩ c).setCell ⟨b0, 3, none⟩ d) := by
  have z1 := h.z.set_ 0 a
  have z2 := z1.set_ 1 b
  have z3 := z2.set_ 2 c
  have z4 := z3.set_ 3 d
  refine ⟨z4, (((h.rd.far h.z (by decide) (by decide) 0 a).far z1 (by decide) (by decide) 1 b).far z2 (by decide) (by decide) 2 c).far z3 (by decide) (by decide) 3 d, ?_⟩
  exact (((h.fr.set (.inr h.h0) 0 a).set (.inr h.h0) 1 b).set (.inr h.h0) 2 c).set (.inr h.h0) 3 d
/-- What is at hand of the state. -/
theorem CSt.cells {w wr : World} {p b0 bx : Nat} {r : Rd} {a b c d : Value} (h : CSt w wr p b0 bx r #[a, b, c, d]) : (∃ A, wr.cell? ⟨p, 0, none⟩ = some (.slice A r.1.length r.1.length)) ∧ wr.cell? ⟨p, 1, none⟩ = some (.bool r.2) ∧ wr.frozen? ⟨p, 1, none⟩ = false ∧
    (wr.cell? ⟨bx, 0, none⟩ = some a ∧ wr.cell? ⟨bx, 1, none⟩ = some b ∧ wr.cell? ⟨bx, 2, none⟩ = some c ∧ wr.cell? ⟨bx, 3, none⟩ = some d) ∧ (wr.frozen? ⟨bx, 0, none⟩ = false ∧ wr.frozen? ⟨bx, 1, none⟩ = false ∧ wr.frozen? ⟨bx, 2, none⟩ = false ∧ wr.frozen? ⟨bx, 3, none⟩ = false) ∧
    (wr.frozen? ⟨b0, 0, none⟩ = false ∧ wr.frozen? ⟨b0, 1, none⟩ = false ∧ wr.frozen? ⟨b0, 2, none⟩ = false ∧ wr.frozen? ⟨b0, 3, none⟩ = false) ∧
    (wr.cell? ⟨b0, 0, none⟩ = some (.int .i64 0) ∧ wr.cell? ⟨b0, 1, none⟩ = some (.int .i64 0) ∧ wr.cell? ⟨b0, 2, none⟩ = some (.int .i64 0) ∧ wr.cell? ⟨b0, 3, none⟩ = some (.string ⟨#[]⟩)) := by
  obtain ⟨A, hb, _⟩ := h.rd
  exact ⟨⟨A, hb.cell 0⟩, hb.cell 1, hb.frozen 1, ⟨h.x.cell 0, h.x.cell 1, h.x.cell 2, h.x.cell 3⟩, ⟨h.x.frozen 0, h.x.frozen 1, h.x.frozen 2, h.x.frozen 3⟩, ⟨h.z.frozen 0, h.z.frozen 1, h.z.frozen 2, h.z.frozen 3⟩, ⟨h.z.cell 0, h.z.cell 1, h.z.cell 2, h.z.cell 3⟩⟩

set_option maxRecDepth 100000 in
set_option maxHeartbeats 2000000 in
theorem rcall_any (w : World) (p : Nat) (r : Rd) (h : RdAt w p r) (hT : Tabs w) (hp : 8 ≤ p) :
    Calls Tryd.prog 51 #[.pointer (some ⟨p, 0, none⟩)] w fun e w' => e = .returned (.agg (clC (callR r).1)) ∧ RdAt w' p (callR r).2 ∧ Fr (One p) w w' := by
  have HR := Lib.hid h
  have HT := Lib.hid hT
  have hpl := h.lt
  clear h hT
  go_enter Tryd.func51, Tryd.ntmps51
  go_wp2_with fail
  refine (rword_any _ p r (HR.out.alloc _)).mono ?_
  rintro e w1 ⟨rfl, h1, f1⟩
  have HB0 := Lib.hid (Blk.new w 58 #[.int .i64 0, .int .i64 0, .int .i64 0, .string ⟨#[]⟩])
  have H1 := Lib.hid h1
  have F1 := Lib.hid ((((Fr.refl (One p) w).alloc (.cells #[.int .i64 0, .int .i64 0, .int .i64 0, .string ⟨#[]⟩] 58))).trans f1 (Sub.refl _ _))
  have B1 := Lib.hid (HB0.out.fr f1 (fun e => by have : w.heap.size = p := e; omega))
  have T1 := Lib.hid (HT.out.one hp F1.out)
  obtain ⟨x, hx⟩ : ∃ x, (wordR r).1 = x := ⟨_, rfl⟩
  obtain ⟨q, hq⟩ : ∃ q, (wordR r).2 = q := ⟨_, rfl⟩
  rw [hx]
  rw [hq] at H1
  have HXQ := Lib.hid (And.intro hx hq)
  clear h1 f1 hx hq HB0
  go_wp2_with fail
  refine (kindOf_any callT_is x _ T1.out).mono ?_
  rintro e w2 ⟨rfl, b2⟩
  have hk := kindP_le callW x
  rw [show callW.length = 9 from rfl] at hk
  have HC : Hid (callR r = (let k : Nat := kindP callW x; let r2 : Rd := (q.1, q.2 || decide ((k : Int) = 0)); let p := numIf (pagedP k) r2; let s := numIf (slotP k) p.2; let d := textIf (dataP k) s.2; (⟨k, p.1, s.1, d.1⟩, d.2))) := by
    unfold Hid
    rw [← HXQ.out.1, ← HXQ.out.2]
    rfl
  generalize kindP callW x = k at hk HC
  have S2 : Hid (∀ v, CSt w (w2.alloc (.cells #[v, .int .i64 0, .int .i64 0, .string ⟨#[]⟩] 58)) p w.heap.size w2.heap.size q #[v, .int .i64 0, .int .i64 0, .string ⟨#[]⟩]) := by
    intro v
    have hs1 := F1.out.size
    have hs2 := b2.size
    have hlt := B1.out.lt
    exact ⟨(H1.out.below b2).alloc _, (B1.out.below b2 B1.out.lt).alloc _, Blk.new _ _ _, (F1.out.below b2).alloc _, (T1.out.below T1.out.size b2).below (B := w2.heap.size) (by have := T1.out.size; omega) ((Below.refl _ _).alloc (Nat.le_refl _) _), Nat.le_refl _, by omega, hpl, by omega⟩
  clear b2 B1 H1 F1 T1 HXQ HR HT
  go_upto_region 2 with fail
  have S3 := Lib.hid (S2.out (.int .i64 (k : Int)))
  clear S2
  revert S3
  generalize w2.alloc (.cells #[.int .i64 (k : Int), .int .i64 0, .int .i64 0, .string ⟨#[]⟩] 58) = W3
  generalize w2.heap.size = bx
  intro S3
  obtain ⟨ws, bad⟩ := q
  obtain ⟨⟨A, c0⟩, c1, f1, ⟨x0, x1, x2, x3⟩, ⟨g0, g1, g2, g3⟩, ⟨y0, y1, y2, y3⟩, ⟨z0, z1, z2, z3⟩⟩ := S3.out.cells
  obtain ⟨bd, hbd⟩ : ∃ bd, (bad || decide ((k : Int) = 0)) = bd := ⟨_, rfl⟩
  have S4 : Hid (CSt w (W3.setCell ⟨p, 1, none⟩ (.bool bd)) p w.heap.size bx (ws, bd) #[.int .i64 (k : Int), .int .i64 0, .int .i64 0, .string ⟨#[]⟩]) := S3.out.bad hp _
  have HBD := Lib.hid hbd
  have hks : (k = 0 ∨ k = 1 ∨ k = 6 ∨ k = 8 ∨ k = 9) ∨ k = 7 ∨ k = 2 ∨ k = 5 ∨ k = 3 ∨ k = 4 := by omega
  have hn1 : ¬ p = bx := by have := S3.out.hx; omega
  have hn2 : ¬ p = w.heap.size := by omega
  have hn3 : ¬ bx = w.heap.size := fun e => S3.out.ne e.symm
  clear hk S3
  rcases hks with hk | hk | hk | hk | hk | hk
  · have HE : Hid (callR r = (⟨k, 0, 0, []⟩, (ws, bd))) := by
      unfold Hid
      rw [HC.out, ← HBD.out]
      rcases hk with rfl | rfl | rfl | rfl | rfl <;> rfl
    clear HC HBD
    rcases hk with rfl | rfl | rfl | rfl | rfl <;> cases bad <;> cases bd
    any_goals (exfalso; revert hbd; decide)
    all_goals
      clear hbd
      have hld := call_load _ _ _ _ _ _ _ S4.out.x
      have HD := Lib.hid S4.out.done
      go_wp2_with fail
      refine bodyPost_ret (call_results rfl _ _ _ _ _ _ _ _ rfl HD.out.1) rfl ⟨by rw [HE.out]; rfl, by rw [HE.out]; exact HD.out.2.1, HD.out.2.2⟩
  · have HE : Hid (callR r = (⟨7, 0, (numR (ws, bd)).1, []⟩, (numR (ws, bd)).2)) := by
      unfold Hid
      rw [HC.out, ← HBD.out]
      subst hk; rfl
    clear HC HBD
    subst hk <;> cases bad <;> cases bd
    any_goals (exfalso; revert hbd; decide)
    · clear hbd
      go_wp2_with fail
      refine (rnum_any _ p _ S4.out.rd S4.out.tabs hp).mono ?_
      rintro e w5 ⟨rfl, h5, f5⟩
      have S5 := Lib.hid (S4.out.step h5 f5 hp)
      clear h5 f5
      obtain ⟨n5, hn⟩ : ∃ n5, (numR (ws, false)).1 = n5 := ⟨_, rfl⟩
      rw [hn]
      rw [hn] at HE
      clear hn
      obtain ⟨r5, hr⟩ : ∃ r5, (numR (ws, false)).2 = r5 := ⟨_, rfl⟩
      rw [hr] at HE S5
      clear hr
      clear c0 c1 f1 x0 x1 x2 x3 g0 g1 g2 g3 y0 y1 y2 y3 z0 z1 z2 z3
      obtain ⟨⟨A4, c0⟩, c1, f1, ⟨x0, x1, x2, x3⟩, ⟨g0, g1, g2, g3⟩, ⟨y0, y1, y2, y3⟩, ⟨z0, z1, z2, z3⟩⟩ := S5.out.cells
      have SZ : Hid (CSt w (w5.setCell ⟨bx, 2, none⟩ (.int .i64 n5)) p w.heap.size bx r5 #[.int .i64 7, .int .i64 0, .int .i64 n5, .string ⟨#[]⟩]) := S5.out.set hp 2 _
      have hld := call_load _ _ _ _ _ _ _ SZ.out.x
      have HD := Lib.hid SZ.out.done
      go_wp2_with fail
      refine bodyPost_ret (call_results rfl _ _ _ _ _ _ _ _ rfl HD.out.1) rfl ⟨by rw [HE.out]; rfl, by rw [HE.out]; exact HD.out.2.1, HD.out.2.2⟩
    · clear hbd
      go_wp2_with fail
      refine (rnum_any _ p _ S4.out.rd S4.out.tabs hp).mono ?_
      rintro e w5 ⟨rfl, h5, f5⟩
      have S5 := Lib.hid (S4.out.step h5 f5 hp)
      clear h5 f5
      obtain ⟨n5, hn⟩ : ∃ n5, (numR (ws, true)).1 = n5 := ⟨_, rfl⟩
      rw [hn]
      rw [hn] at HE
      clear hn
      obtain ⟨r5, hr⟩ : ∃ r5, (numR (ws, true)).2 = r5 := ⟨_, rfl⟩
      rw [hr] at HE S5
      clear hr
      clear c0 c1 f1 x0 x1 x2 x3 g0 g1 g2 g3 y0 y1 y2 y3 z0 z1 z2 z3
      obtain ⟨⟨A4, c0⟩, c1, f1, ⟨x0, x1, x2, x3⟩, ⟨g0, g1, g2, g3⟩, ⟨y0, y1, y2, y3⟩, ⟨z0, z1, z2, z3⟩⟩ := S5.out.cells
      have SZ : Hid (CSt w (w5.setCell ⟨bx, 2, none⟩ (.int .i64 n5)) p w.heap.size bx r5 #[.int .i64 7, .int .i64 0, .int .i64 n5, .string ⟨#[]⟩]) := S5.out.set hp 2 _
      have hld := call_load _ _ _ _ _ _ _ SZ.out.x
      have HD := Lib.hid SZ.out.done
      go_wp2_with fail
      refine bodyPost_ret (call_results rfl _ _ _ _ _ _ _ _ rfl HD.out.1) rfl ⟨by rw [HE.out]; rfl, by rw [HE.out]; exact HD.out.2.1, HD.out.2.2⟩
  · have HE : Hid (callR r = (⟨2, (numR (ws, bd)).1, (numR (numR (ws, bd)).2).1, []⟩, (numR (numR (ws, bd)).2).2)) := by
      unfold Hid
      rw [HC.out, ← HBD.out]
      subst hk; rfl
    clear HC HBD
    subst hk <;> cases bad <;> cases bd
    any_goals (exfalso; revert hbd; decide)
    · clear hbd
      go_wp2_with fail
      refine (rnum_any _ p _ S4.out.rd S4.out.tabs hp).mono ?_
      rintro e w5 ⟨rfl, h5, f5⟩
      have S5 := Lib.hid (S4.out.step h5 f5 hp)
      clear h5 f5
      obtain ⟨n5, hn⟩ : ∃ n5, (numR (ws, false)).1 = n5 := ⟨_, rfl⟩
      rw [hn]
      rw [hn] at HE
      clear hn
      obtain ⟨r5, hr⟩ : ∃ r5, (numR (ws, false)).2 = r5 := ⟨_, rfl⟩
      rw [hr] at HE S5
      clear hr
      clear c0 c1 f1 x0 x1 x2 x3 g0 g1 g2 g3 y0 y1 y2 y3 z0 z1 z2 z3
      obtain ⟨⟨A4, c0⟩, c1, f1, ⟨x0, x1, x2, x3⟩, ⟨g0, g1, g2, g3⟩, ⟨y0, y1, y2, y3⟩, ⟨z0, z1, z2, z3⟩⟩ := S5.out.cells
      have T5 : Hid (CSt w (w5.setCell ⟨bx, 1, none⟩ (.int .i64 n5)) p w.heap.size bx r5 #[.int .i64 2, .int .i64 n5, .int .i64 0, .string ⟨#[]⟩]) := S5.out.set hp 1 _
      go_wp2_with fail
      refine (rnum_any _ p _ T5.out.rd T5.out.tabs hp).mono ?_
      rintro e w6 ⟨rfl, h6, f6⟩
      have S6 := Lib.hid (T5.out.step h6 f6 hp)
      clear h6 f6
      obtain ⟨n6, hn⟩ : ∃ n6, (numR r5).1 = n6 := ⟨_, rfl⟩
      rw [hn]
      rw [hn] at HE
      clear hn
      obtain ⟨r6, hr⟩ : ∃ r6, (numR r5).2 = r6 := ⟨_, rfl⟩
      rw [hr] at HE S6
      clear hr
      clear c0 c1 f1 x0 x1 x2 x3 g0 g1 g2 g3 y0 y1 y2 y3 z0 z1 z2 z3
      obtain ⟨⟨A4, c0⟩, c1, f1, ⟨x0, x1, x2, x3⟩, ⟨g0, g1, g2, g3⟩, ⟨y0, y1, y2, y3⟩, ⟨z0, z1, z2, z3⟩⟩ := S6.out.cells
      have SZ : Hid (CSt w (w6.setCell ⟨bx, 2, none⟩ (.int .i64 n6)) p w.heap.size bx r6 #[.int .i64 2, .int .i64 n5, .int .i64 n6, .string ⟨#[]⟩]) := S6.out.set hp 2 _
      have hld := call_load _ _ _ _ _ _ _ SZ.out.x
      have HD := Lib.hid SZ.out.done
      go_wp2_with fail
      refine bodyPost_ret (call_results rfl _ _ _ _ _ _ _ _ rfl HD.out.1) rfl ⟨by rw [HE.out]; rfl, by rw [HE.out]; exact HD.out.2.1, HD.out.2.2⟩
    · clear hbd
      go_wp2_with fail
      refine (rnum_any _ p _ S4.out.rd S4.out.tabs hp).mono ?_
      rintro e w5 ⟨rfl, h5, f5⟩
      have S5 := Lib.hid (S4.out.step h5 f5 hp)
      clear h5 f5
      obtain ⟨n5, hn⟩ : ∃ n5, (numR (ws, true)).1 = n5 := ⟨_, rfl⟩
      rw [hn]
      rw [hn] at HE
      clear hn
      obtain ⟨r5, hr⟩ : ∃ r5, (numR (ws, true)).2 = r5 := ⟨_, rfl⟩
      rw [hr] at HE S5
      clear hr
      clear c0 c1 f1 x0 x1 x2 x3 g0 g1 g2 g3 y0 y1 y2 y3 z0 z1 z2 z3
      obtain ⟨⟨A4, c0⟩, c1, f1, ⟨x0, x1, x2, x3⟩, ⟨g0, g1, g2, g3⟩, ⟨y0, y1, y2, y3⟩, ⟨z0, z1, z2, z3⟩⟩ := S5.out.cells
      have T5 : Hid (CSt w (w5.setCell ⟨bx, 1, none⟩ (.int .i64 n5)) p w.heap.size bx r5 #[.int .i64 2, .int .i64 n5, .int .i64 0, .string ⟨#[]⟩]) := S5.out.set hp 1 _
      go_wp2_with fail
      refine (rnum_any _ p _ T5.out.rd T5.out.tabs hp).mono ?_
      rintro e w6 ⟨rfl, h6, f6⟩
      have S6 := Lib.hid (T5.out.step h6 f6 hp)
      clear h6 f6
      obtain ⟨n6, hn⟩ : ∃ n6, (numR r5).1 = n6 := ⟨_, rfl⟩
      rw [hn]
      rw [hn] at HE
      clear hn
      obtain ⟨r6, hr⟩ : ∃ r6, (numR r5).2 = r6 := ⟨_, rfl⟩
      rw [hr] at HE S6
      clear hr
      clear c0 c1 f1 x0 x1 x2 x3 g0 g1 g2 g3 y0 y1 y2 y3 z0 z1 z2 z3
      obtain ⟨⟨A4, c0⟩, c1, f1, ⟨x0, x1, x2, x3⟩, ⟨g0, g1, g2, g3⟩, ⟨y0, y1, y2, y3⟩, ⟨z0, z1, z2, z3⟩⟩ := S6.out.cells
      have SZ : Hid (CSt w (w6.setCell ⟨bx, 2, none⟩ (.int .i64 n6)) p w.heap.size bx r6 #[.int .i64 2, .int .i64 n5, .int .i64 n6, .string ⟨#[]⟩]) := S6.out.set hp 2 _
      have hld := call_load _ _ _ _ _ _ _ SZ.out.x
      have HD := Lib.hid SZ.out.done
      go_wp2_with fail
      refine bodyPost_ret (call_results rfl _ _ _ _ _ _ _ _ rfl HD.out.1) rfl ⟨by rw [HE.out]; rfl, by rw [HE.out]; exact HD.out.2.1, HD.out.2.2⟩
  · have HE : Hid (callR r = (⟨5, (numR (ws, bd)).1, (numR (numR (ws, bd)).2).1, []⟩, (numR (numR (ws, bd)).2).2)) := by
      unfold Hid
      rw [HC.out, ← HBD.out]
      subst hk; rfl
    clear HC HBD
    subst hk <;> cases bad <;> cases bd
    any_goals (exfalso; revert hbd; decide)
    · clear hbd
      go_wp2_with fail
      refine (rnum_any _ p _ S4.out.rd S4.out.tabs hp).mono ?_
      rintro e w5 ⟨rfl, h5, f5⟩
      have S5 := Lib.hid (S4.out.step h5 f5 hp)
      clear h5 f5
      obtain ⟨n5, hn⟩ : ∃ n5, (numR (ws, false)).1 = n5 := ⟨_, rfl⟩
      rw [hn]
      rw [hn] at HE
      clear hn
      obtain ⟨r5, hr⟩ : ∃ r5, (numR (ws, false)).2 = r5 := ⟨_, rfl⟩
      rw [hr] at HE S5
      clear hr
      clear c0 c1 f1 x0 x1 x2 x3 g0 g1 g2 g3 y0 y1 y2 y3 z0 z1 z2 z3
      obtain ⟨⟨A4, c0⟩, c1, f1, ⟨x0, x1, x2, x3⟩, ⟨g0, g1, g2, g3⟩, ⟨y0, y1, y2, y3⟩, ⟨z0, z1, z2, z3⟩⟩ := S5.out.cells
      have T5 : Hid (CSt w (w5.setCell ⟨bx, 1, none⟩ (.int .i64 n5)) p w.heap.size bx r5 #[.int .i64 5, .int .i64 n5, .int .i64 0, .string ⟨#[]⟩]) := S5.out.set hp 1 _
      go_wp2_with fail
      refine (rnum_any _ p _ T5.out.rd T5.out.tabs hp).mono ?_
      rintro e w6 ⟨rfl, h6, f6⟩
      have S6 := Lib.hid (T5.out.step h6 f6 hp)
      clear h6 f6
      obtain ⟨n6, hn⟩ : ∃ n6, (numR r5).1 = n6 := ⟨_, rfl⟩
      rw [hn]
      rw [hn] at HE
      clear hn
      obtain ⟨r6, hr⟩ : ∃ r6, (numR r5).2 = r6 := ⟨_, rfl⟩
      rw [hr] at HE S6
      clear hr
      clear c0 c1 f1 x0 x1 x2 x3 g0 g1 g2 g3 y0 y1 y2 y3 z0 z1 z2 z3
      obtain ⟨⟨A4, c0⟩, c1, f1, ⟨x0, x1, x2, x3⟩, ⟨g0, g1, g2, g3⟩, ⟨y0, y1, y2, y3⟩, ⟨z0, z1, z2, z3⟩⟩ := S6.out.cells
      have SZ : Hid (CSt w (w6.setCell ⟨bx, 2, none⟩ (.int .i64 n6)) p w.heap.size bx r6 #[.int .i64 5, .int .i64 n5, .int .i64 n6, .string ⟨#[]⟩]) := S6.out.set hp 2 _
      have hld := call_load _ _ _ _ _ _ _ SZ.out.x
      have HD := Lib.hid SZ.out.done
      go_wp2_with fail
      refine bodyPost_ret (call_results rfl _ _ _ _ _ _ _ _ rfl HD.out.1) rfl ⟨by rw [HE.out]; rfl, by rw [HE.out]; exact HD.out.2.1, HD.out.2.2⟩
    · clear hbd
      go_wp2_with fail
      refine (rnum_any _ p _ S4.out.rd S4.out.tabs hp).mono ?_
      rintro e w5 ⟨rfl, h5, f5⟩
      have S5 := Lib.hid (S4.out.step h5 f5 hp)
      clear h5 f5
      obtain ⟨n5, hn⟩ : ∃ n5, (numR (ws, true)).1 = n5 := ⟨_, rfl⟩
      rw [hn]
      rw [hn] at HE
      clear hn
      obtain ⟨r5, hr⟩ : ∃ r5, (numR (ws, true)).2 = r5 := ⟨_, rfl⟩
      rw [hr] at HE S5
      clear hr
      clear c0 c1 f1 x0 x1 x2 x3 g0 g1 g2 g3 y0 y1 y2 y3 z0 z1 z2 z3
      obtain ⟨⟨A4, c0⟩, c1, f1, ⟨x0, x1, x2, x3⟩, ⟨g0, g1, g2, g3⟩, ⟨y0, y1, y2, y3⟩, ⟨z0, z1, z2, z3⟩⟩ := S5.out.cells
      have T5 : Hid (CSt w (w5.setCell ⟨bx, 1, none⟩ (.int .i64 n5)) p w.heap.size bx r5 #[.int .i64 5, .int .i64 n5, .int .i64 0, .string ⟨#[]⟩]) := S5.out.set hp 1 _
      go_wp2_with fail
      refine (rnum_any _ p _ T5.out.rd T5.out.tabs hp).mono ?_
      rintro e w6 ⟨rfl, h6, f6⟩
      have S6 := Lib.hid (T5.out.step h6 f6 hp)
      clear h6 f6
      obtain ⟨n6, hn⟩ : ∃ n6, (numR r5).1 = n6 := ⟨_, rfl⟩
      rw [hn]
      rw [hn] at HE
      clear hn
      obtain ⟨r6, hr⟩ : ∃ r6, (numR r5).2 = r6 := ⟨_, rfl⟩
      rw [hr] at HE S6
      clear hr
      clear c0 c1 f1 x0 x1 x2 x3 g0 g1 g2 g3 y0 y1 y2 y3 z0 z1 z2 z3
      obtain ⟨⟨A4, c0⟩, c1, f1, ⟨x0, x1, x2, x3⟩, ⟨g0, g1, g2, g3⟩, ⟨y0, y1, y2, y3⟩, ⟨z0, z1, z2, z3⟩⟩ := S6.out.cells
      have SZ : Hid (CSt w (w6.setCell ⟨bx, 2, none⟩ (.int .i64 n6)) p w.heap.size bx r6 #[.int .i64 5, .int .i64 n5, .int .i64 n6, .string ⟨#[]⟩]) := S6.out.set hp 2 _
      have hld := call_load _ _ _ _ _ _ _ SZ.out.x
      have HD := Lib.hid SZ.out.done
      go_wp2_with fail
      refine bodyPost_ret (call_results rfl _ _ _ _ _ _ _ _ rfl HD.out.1) rfl ⟨by rw [HE.out]; rfl, by rw [HE.out]; exact HD.out.2.1, HD.out.2.2⟩
  · have HE : Hid (callR r = (⟨3, (numR (ws, bd)).1, 0, (textR (numR (ws, bd)).2).1⟩, (textR (numR (ws, bd)).2).2)) := by
      unfold Hid
      rw [HC.out, ← HBD.out]
      subst hk; rfl
    clear HC HBD
    subst hk <;> cases bad <;> cases bd
    any_goals (exfalso; revert hbd; decide)
    · clear hbd
      go_wp2_with fail
      refine (rnum_any _ p _ S4.out.rd S4.out.tabs hp).mono ?_
      rintro e w5 ⟨rfl, h5, f5⟩
      have S5 := Lib.hid (S4.out.step h5 f5 hp)
      clear h5 f5
      obtain ⟨n5, hn⟩ : ∃ n5, (numR (ws, false)).1 = n5 := ⟨_, rfl⟩
      rw [hn]
      rw [hn] at HE
      clear hn
      obtain ⟨r5, hr⟩ : ∃ r5, (numR (ws, false)).2 = r5 := ⟨_, rfl⟩
      rw [hr] at HE S5
      clear hr
      clear c0 c1 f1 x0 x1 x2 x3 g0 g1 g2 g3 y0 y1 y2 y3 z0 z1 z2 z3
      obtain ⟨⟨A4, c0⟩, c1, f1, ⟨x0, x1, x2, x3⟩, ⟨g0, g1, g2, g3⟩, ⟨y0, y1, y2, y3⟩, ⟨z0, z1, z2, z3⟩⟩ := S5.out.cells
      have T5 : Hid (CSt w (w5.setCell ⟨bx, 1, none⟩ (.int .i64 n5)) p w.heap.size bx r5 #[.int .i64 3, .int .i64 n5, .int .i64 0, .string ⟨#[]⟩]) := S5.out.set hp 1 _
      go_wp2_with fail
      refine (rtext_any _ p _ T5.out.rd T5.out.tabs hp).mono ?_
      rintro e w6 ⟨rfl, h6, f6⟩
      have S6 := Lib.hid (T5.out.step h6 f6 hp)
      clear h6 f6
      obtain ⟨n6, hn⟩ : ∃ n6, (textR r5).1 = n6 := ⟨_, rfl⟩
      rw [hn]
      rw [hn] at HE
      clear hn
      obtain ⟨r6, hr⟩ : ∃ r6, (textR r5).2 = r6 := ⟨_, rfl⟩
      rw [hr] at HE S6
      clear hr
      clear c0 c1 f1 x0 x1 x2 x3 g0 g1 g2 g3 y0 y1 y2 y3 z0 z1 z2 z3
      obtain ⟨⟨A4, c0⟩, c1, f1, ⟨x0, x1, x2, x3⟩, ⟨g0, g1, g2, g3⟩, ⟨y0, y1, y2, y3⟩, ⟨z0, z1, z2, z3⟩⟩ := S6.out.cells
      have SZ : Hid (CSt w (w6.setCell ⟨bx, 3, none⟩ (.string (ba n6))) p w.heap.size bx r6 #[.int .i64 3, .int .i64 n5, .int .i64 0, .string (ba n6)]) := S6.out.set hp 3 _
      have hld := call_load _ _ _ _ _ _ _ SZ.out.x
      have HD := Lib.hid SZ.out.done
      go_wp2_with fail
      refine bodyPost_ret (call_results rfl _ _ _ _ _ _ _ _ rfl HD.out.1) rfl ⟨by rw [HE.out]; rfl, by rw [HE.out]; exact HD.out.2.1, HD.out.2.2⟩
    · clear hbd
      go_wp2_with fail
      refine (rnum_any _ p _ S4.out.rd S4.out.tabs hp).mono ?_
      rintro e w5 ⟨rfl, h5, f5⟩
      have S5 := Lib.hid (S4.out.step h5 f5 hp)
      clear h5 f5
      obtain ⟨n5, hn⟩ : ∃ n5, (numR (ws, true)).1 = n5 := ⟨_, rfl⟩
      rw [hn]
      rw [hn] at HE
      clear hn
      obtain ⟨r5, hr⟩ : ∃ r5, (numR (ws, true)).2 = r5 := ⟨_, rfl⟩
      rw [hr] at HE S5
      clear hr
      clear c0 c1 f1 x0 x1 x2 x3 g0 g1 g2 g3 y0 y1 y2 y3 z0 z1 z2 z3
      obtain ⟨⟨A4, c0⟩, c1, f1, ⟨x0, x1, x2, x3⟩, ⟨g0, g1, g2, g3⟩, ⟨y0, y1, y2, y3⟩, ⟨z0, z1, z2, z3⟩⟩ := S5.out.cells
      have T5 : Hid (CSt w (w5.setCell ⟨bx, 1, none⟩ (.int .i64 n5)) p w.heap.size bx r5 #[.int .i64 3, .int .i64 n5, .int .i64 0, .string ⟨#[]⟩]) := S5.out.set hp 1 _
      go_wp2_with fail
      refine (rtext_any _ p _ T5.out.rd T5.out.tabs hp).mono ?_
      rintro e w6 ⟨rfl, h6, f6⟩
      have S6 := Lib.hid (T5.out.step h6 f6 hp)
      clear h6 f6
      obtain ⟨n6, hn⟩ : ∃ n6, (textR r5).1 = n6 := ⟨_, rfl⟩
      rw [hn]
      rw [hn] at HE
      clear hn
      obtain ⟨r6, hr⟩ : ∃ r6, (textR r5).2 = r6 := ⟨_, rfl⟩
      rw [hr] at HE S6
      clear hr
      clear c0 c1 f1 x0 x1 x2 x3 g0 g1 g2 g3 y0 y1 y2 y3 z0 z1 z2 z3
      obtain ⟨⟨A4, c0⟩, c1, f1, ⟨x0, x1, x2, x3⟩, ⟨g0, g1, g2, g3⟩, ⟨y0, y1, y2, y3⟩, ⟨z0, z1, z2, z3⟩⟩ := S6.out.cells
      have SZ : Hid (CSt w (w6.setCell ⟨bx, 3, none⟩ (.string (ba n6))) p w.heap.size bx r6 #[.int .i64 3, .int .i64 n5, .int .i64 0, .string (ba n6)]) := S6.out.set hp 3 _
      have hld := call_load _ _ _ _ _ _ _ SZ.out.x
      have HD := Lib.hid SZ.out.done
      go_wp2_with fail
      refine bodyPost_ret (call_results rfl _ _ _ _ _ _ _ _ rfl HD.out.1) rfl ⟨by rw [HE.out]; rfl, by rw [HE.out]; exact HD.out.2.1, HD.out.2.2⟩
  · have HE : Hid (callR r = (⟨4, (numR (ws, bd)).1, (numR (numR (ws, bd)).2).1, (textR (numR (numR (ws, bd)).2).2).1⟩, (textR (numR (numR (ws, bd)).2).2).2)) := by
      unfold Hid
      rw [HC.out, ← HBD.out]
      subst hk; rfl
    clear HC HBD
    subst hk <;> cases bad <;> cases bd
    any_goals (exfalso; revert hbd; decide)
    · clear hbd
      go_wp2_with fail
      refine (rnum_any _ p _ S4.out.rd S4.out.tabs hp).mono ?_
      rintro e w5 ⟨rfl, h5, f5⟩
      have S5 := Lib.hid (S4.out.step h5 f5 hp)
      clear h5 f5
      obtain ⟨n5, hn⟩ : ∃ n5, (numR (ws, false)).1 = n5 := ⟨_, rfl⟩
      rw [hn]
      rw [hn] at HE
      clear hn
      obtain ⟨r5, hr⟩ : ∃ r5, (numR (ws, false)).2 = r5 := ⟨_, rfl⟩
      rw [hr] at HE S5
      clear hr
      clear c0 c1 f1 x0 x1 x2 x3 g0 g1 g2 g3 y0 y1 y2 y3 z0 z1 z2 z3
      obtain ⟨⟨A4, c0⟩, c1, f1, ⟨x0, x1, x2, x3⟩, ⟨g0, g1, g2, g3⟩, ⟨y0, y1, y2, y3⟩, ⟨z0, z1, z2, z3⟩⟩ := S5.out.cells
      have T5 : Hid (CSt w (w5.setCell ⟨bx, 1, none⟩ (.int .i64 n5)) p w.heap.size bx r5 #[.int .i64 4, .int .i64 n5, .int .i64 0, .string ⟨#[]⟩]) := S5.out.set hp 1 _
      go_wp2_with fail
      refine (rnum_any _ p _ T5.out.rd T5.out.tabs hp).mono ?_
      rintro e w6 ⟨rfl, h6, f6⟩
      have S6 := Lib.hid (T5.out.step h6 f6 hp)
      clear h6 f6
      obtain ⟨n6, hn⟩ : ∃ n6, (numR r5).1 = n6 := ⟨_, rfl⟩
      rw [hn]
      rw [hn] at HE
      clear hn
      obtain ⟨r6, hr⟩ : ∃ r6, (numR r5).2 = r6 := ⟨_, rfl⟩
      rw [hr] at HE S6
      clear hr
      clear c0 c1 f1 x0 x1 x2 x3 g0 g1 g2 g3 y0 y1 y2 y3 z0 z1 z2 z3
      obtain ⟨⟨A4, c0⟩, c1, f1, ⟨x0, x1, x2, x3⟩, ⟨g0, g1, g2, g3⟩, ⟨y0, y1, y2, y3⟩, ⟨z0, z1, z2, z3⟩⟩ := S6.out.cells
      have T6 : Hid (CSt w (w6.setCell ⟨bx, 2, none⟩ (.int .i64 n6)) p w.heap.size bx r6 #[.int .i64 4, .int .i64 n5, .int .i64 n6, .string ⟨#[]⟩]) := S6.out.set hp 2 _
      go_wp2_with fail
      refine (rtext_any _ p _ T6.out.rd T6.out.tabs hp).mono ?_
      rintro e w7 ⟨rfl, h7, f7⟩
      have S7 := Lib.hid (T6.out.step h7 f7 hp)
      clear h7 f7
      obtain ⟨n7, hn⟩ : ∃ n7, (textR r6).1 = n7 := ⟨_, rfl⟩
      rw [hn]
      rw [hn] at HE
      clear hn
      obtain ⟨r7, hr⟩ : ∃ r7, (textR r6).2 = r7 := ⟨_, rfl⟩
      rw [hr] at HE S7
      clear hr
      clear c0 c1 f1 x0 x1 x2 x3 g0 g1 g2 g3 y0 y1 y2 y3 z0 z1 z2 z3
      obtain ⟨⟨A4, c0⟩, c1, f1, ⟨x0, x1, x2, x3⟩, ⟨g0, g1, g2, g3⟩, ⟨y0, y1, y2, y3⟩, ⟨z0, z1, z2, z3⟩⟩ := S7.out.cells
      have SZ : Hid (CSt w (w7.setCell ⟨bx, 3, none⟩ (.string (ba n7))) p w.heap.size bx r7 #[.int .i64 4, .int .i64 n5, .int .i64 n6, .string (ba n7)]) := S7.out.set hp 3 _
      have hld := call_load _ _ _ _ _ _ _ SZ.out.x
      have HD := Lib.hid SZ.out.done
      go_wp2_with fail
      refine bodyPost_ret (call_results rfl _ _ _ _ _ _ _ _ rfl HD.out.1) rfl ⟨by rw [HE.out]; rfl, by rw [HE.out]; exact HD.out.2.1, HD.out.2.2⟩
    · clear hbd
      go_wp2_with fail
      refine (rnum_any _ p _ S4.out.rd S4.out.tabs hp).mono ?_
      rintro e w5 ⟨rfl, h5, f5⟩
      have S5 := Lib.hid (S4.out.step h5 f5 hp)
      clear h5 f5
      obtain ⟨n5, hn⟩ : ∃ n5, (numR (ws, true)).1 = n5 := ⟨_, rfl⟩
      rw [hn]
      rw [hn] at HE
      clear hn
      obtain ⟨r5, hr⟩ : ∃ r5, (numR (ws, true)).2 = r5 := ⟨_, rfl⟩
      rw [hr] at HE S5
      clear hr
      clear c0 c1 f1 x0 x1 x2 x3 g0 g1 g2 g3 y0 y1 y2 y3 z0 z1 z2 z3
      obtain ⟨⟨A4, c0⟩, c1, f1, ⟨x0, x1, x2, x3⟩, ⟨g0, g1, g2, g3⟩, ⟨y0, y1, y2, y3⟩, ⟨z0, z1, z2, z3⟩⟩ := S5.out.cells
      have T5 : Hid (CSt w (w5.setCell ⟨bx, 1, none⟩ (.int .i64 n5)) p w.heap.size bx r5 #[.int .i64 4, .int .i64 n5, .int .i64 0, .string ⟨#[]⟩]) := S5.out.set hp 1 _
      go_wp2_with fail
      refine (rnum_any _ p _ T5.out.rd T5.out.tabs hp).mono ?_
      rintro e w6 ⟨rfl, h6, f6⟩
      have S6 := Lib.hid (T5.out.step h6 f6 hp)
      clear h6 f6
      obtain ⟨n6, hn⟩ : ∃ n6, (numR r5).1 = n6 := ⟨_, rfl⟩
      rw [hn]
      rw [hn] at HE
      clear hn
      obtain ⟨r6, hr⟩ : ∃ r6, (numR r5).2 = r6 := ⟨_, rfl⟩
      rw [hr] at HE S6
      clear hr
      clear c0 c1 f1 x0 x1 x2 x3 g0 g1 g2 g3 y0 y1 y2 y3 z0 z1 z2 z3
      obtain ⟨⟨A4, c0⟩, c1, f1, ⟨x0, x1, x2, x3⟩, ⟨g0, g1, g2, g3⟩, ⟨y0, y1, y2, y3⟩, ⟨z0, z1, z2, z3⟩⟩ := S6.out.cells
      have T6 : Hid (CSt w (w6.setCell ⟨bx, 2, none⟩ (.int .i64 n6)) p w.heap.size bx r6 #[.int .i64 4, .int .i64 n5, .int .i64 n6, .string ⟨#[]⟩]) := S6.out.set hp 2 _
      go_wp2_with fail
      refine (rtext_any _ p _ T6.out.rd T6.out.tabs hp).mono ?_
      rintro e w7 ⟨rfl, h7, f7⟩
      have S7 := Lib.hid (T6.out.step h7 f7 hp)
      clear h7 f7
      obtain ⟨n7, hn⟩ : ∃ n7, (textR r6).1 = n7 := ⟨_, rfl⟩
      rw [hn]
      rw [hn] at HE
      clear hn
      obtain ⟨r7, hr⟩ : ∃ r7, (textR r6).2 = r7 := ⟨_, rfl⟩
      rw [hr] at HE S7
      clear hr
      clear c0 c1 f1 x0 x1 x2 x3 g0 g1 g2 g3 y0 y1 y2 y3 z0 z1 z2 z3
      obtain ⟨⟨A4, c0⟩, c1, f1, ⟨x0, x1, x2, x3⟩, ⟨g0, g1, g2, g3⟩, ⟨y0, y1, y2, y3⟩, ⟨z0, z1, z2, z3⟩⟩ := S7.out.cells
      have SZ : Hid (CSt w (w7.setCell ⟨bx, 3, none⟩ (.string (ba n7))) p w.heap.size bx r7 #[.int .i64 4, .int .i64 n5, .int .i64 n6, .string (ba n7)]) := S7.out.set hp 3 _
      have hld := call_load _ _ _ _ _ _ _ SZ.out.x
      have HD := Lib.hid SZ.out.done
      go_wp2_with fail
      refine bodyPost_ret (call_results rfl _ _ _ _ _ _ _ _ rfl HD.out.1) rfl ⟨by rw [HE.out]; rfl, by rw [HE.out]; exact HD.out.2.1, HD.out.2.2⟩

end Go.Proofs.YtbikplckehbcnaaDoor
