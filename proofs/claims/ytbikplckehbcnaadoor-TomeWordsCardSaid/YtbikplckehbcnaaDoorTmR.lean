/- tome's reader: word, number, text, way: the walks. -/
import Derived.Test.YtbikplckehbcnaaDoorTmX
import Derived.Lib.AppendIntMem
set_option linter.unusedVariables false
set_option linter.unusedSimpArgs false
namespace Go.Proofs.YtbikplckehbcnaaDoor
open Go Go.RowKit

theorem RdAt.bad {w : World} {p : Nat} {r : Rd} (h : RdAt w p r) (b : Bool) : RdAt (w.setCell ⟨p, 1, none⟩ (.bool b)) p (r.1, b) := by
  obtain ⟨A, hb, hw, hl⟩ := h
  exact ⟨A, hb.set_ 1 _, hw.fr ((Fr.refl _ w).one 1 _) (fun g cs hg e => Blk.ne_ hb hg (by decide) (show p = g from (show g = p from e).symm)), hl⟩

set_option maxRecDepth 100000 in
theorem rword_any (w : World) (p : Nat) (r : Rd) (h : RdAt w p r) :
    Calls Tryd.prog 49 #[.pointer (some ⟨p, 0, none⟩)] w fun e w' => e = .returned (.string (ba (wordR r).1)) ∧ RdAt w' p (wordR r).2 ∧ Fr (One p) w w' := by
  obtain ⟨l, b⟩ := r
  have HR := Lib.hid h
  obtain ⟨A, hb, hw, hl⟩ := h
  have c0 := hb.cell 0
  have c1 := hb.cell 1
  have f0 := hb.frozen 0
  have f1 := hb.frozen 1
  simp only [List.getElem?_toArray] at c0 c1
  cases l with
  | nil =>
    have HRes : Hid (RdAt (w.setCell ⟨p, 1, none⟩ (.bool true)) p ([], true)) := HR.out.bad true
    clear hb hw hl
    go_enter Tryd.func49, Tryd.ntmps49
    go_wp2_with fail
    go_ret
    exact ⟨rfl, HRes.out, (Fr.refl _ _).one 1 _⟩
  | cons x t =>
    obtain ⟨g, off, cs, rfl, hg, hc⟩ := hw (by simp)
    have hx : w.cell? ⟨g, off + 0, none⟩ = some (.string (ba x)) := (hg.cell (off + 0)).trans (hc 0 x rfl)
    have HG := Lib.hid hg
    have HB := Lib.hid hb
    have HC := Lib.hid hc
    have hlx : ∀ y ∈ t, y.length ≤ 131072 := fun y hy => hl y (List.mem_cons_of_mem _ hy)
    have HL := Lib.hid hlx
    clear hb hw hl hc hlx hg
    simp only [List.length_cons, Nat.add_zero] at c0 hx
    cases t with
    | nil =>
      have HRes : Hid (RdAt (w.setCell ⟨p, 0, none⟩ (.slice (some ⟨g, off, none⟩) 0 0)) p ([], b)) := ⟨_, HB.out.set_ 0 _, Wds.nil _ _, by simp⟩
      simp only [List.length_nil, Nat.zero_add] at c0
      go_enter Tryd.func49, Tryd.ntmps49
      go_wp2_with fail
      go_ret
      exact ⟨rfl, HRes.out, (Fr.refl _ _).one 0 _⟩
    | cons y t =>
      have HRes : Hid (RdAt (w.setCell ⟨p, 0, none⟩ (.slice (some ⟨g, off + 1, none⟩) (t.length + 1) (t.length + 1))) p (y :: t, b)) := by
        refine ⟨_, HB.out.set_ 0 _, fun _ => ?_, HL.out⟩
        refine ⟨g, off + 1, cs, rfl, HG.out.far (fun e => Blk.ne_ HB.out HG.out (by decide) e.symm) _, fun j z hz => ?_⟩
        have := HC.out (j + 1) z hz
        rw [show off + 1 + j = off + (j + 1) by omega]
        exact this
      simp only [List.length_cons] at c0
      have hne : (t.length + 1 + 1 = 1) = False := by simp
      go_enter Tryd.func49, Tryd.ntmps49
      go_wp2_with fail
      go_ret
      exact ⟨rfl, HRes.out, (Fr.refl _ _).one 0 _⟩

theorem Tabs.erc {w : World} (h : Tabs w) : ∃ tp p, w.var? Tryd.prog "strconv.ErrRange" = some #[.iface tp p] := h.er
/-- Whether Atoi has no error. -/
def atoiOk (w : Bs) : Bool := match Lib.atoiAll w with | .ok _ => true | _ => false
theorem numOk_of (w : Bs) : numOk w = (atoiOk w && (Lib.itoa (atoiV w) == w)) := by
  unfold numOk atoiOk atoiV
  split <;> simp_all

theorem atoi_any (x : Bs) (hx : x.length ≤ 1048576) (w : World) (hT : Tabs w) :
    Calls Tryd.prog 82 #[.string (ba x)] w fun e w' => (∃ v, e = .returned (.tuple #[.int .i64 (atoiV x), v]) ∧ ((atoiOk x = true ∧ v = .nilIface) ∨ (atoiOk x = false ∧ ∃ a, v = .iface 174 a))) ∧ Below w.heap.size w w' := by
  have hsz : (ba x).size = x.length := rfl
  cases hc : Lib.atoiAll x with
  | ok v =>
    refine (Tryd.strconv_Atoi_ok (ba x) (by omega) v hc w).mono ?_
    rintro e w' ⟨rfl, hw⟩
    refine ⟨⟨_, by simp only [atoiV, hc], .inl ⟨by simp only [atoiOk, hc], rfl⟩⟩, ?_⟩
    rcases hw with rfl | ⟨t, rfl⟩
    · exact Below.refl _ _
    · exact bw_below _ _ _ _ (Nat.le_refl _)
  | «syntax» =>
    obtain ⟨tp, pv, hv⟩ := hT.es
    refine (Tryd.strconv_Atoi_syntax_var (ba x) (by omega) hc tp pv w hv).mono ?_
    rintro e w' ⟨N, rfl, _, _, hb⟩
    exact ⟨⟨_, by simp only [atoiV, hc]; rfl, .inr ⟨by simp only [atoiOk, hc], _, rfl⟩⟩, hb⟩
  | range =>
    obtain ⟨tp, pv, hv⟩ := hT.er
    refine (Tryd.strconv_Atoi_range_var (ba x) (by omega) hc tp pv w hv).mono ?_
    rintro e w' ⟨N, rfl, _, _, hb⟩
    exact ⟨⟨_, by simp only [atoiV, hc]; rfl, .inr ⟨by simp only [atoiOk, hc], _, rfl⟩⟩, hb⟩
theorem itoa_any (n : Int) (h0 : -9223372036854775808 ≤ n) (h1 : n ≤ 9223372036854775807) (w : World) (hT : Tabs w) :
    Calls Tryd.prog 83 #[.int .i64 n] w fun e w' => e = .returned (.string (ba (Lib.itoa n))) ∧ Below w.heap.size w w' :=
  (Tryd.strconv_Itoa n h0 h1 w hT.pw).mono fun e w' ⟨he, k, os, hw⟩ => ⟨he, hw ▸ Lib.below_grow _ _ (Nat.le_refl _) _ _⟩

/-- What the reader's methods turn: the reader's own block. -/
theorem fr_one_below {p : Nat} {a b c : World} (h : Fr (One p) a b) (hb : Below b.heap.size b c) : Fr (One p) a c := h.below hb

set_option maxRecDepth 100000 in
theorem rnum_any (w : World) (p : Nat) (r : Rd) (h : RdAt w p r) (hT : Tabs w) (hp : 8 ≤ p) :
    Calls Tryd.prog 50 #[.pointer (some ⟨p, 0, none⟩)] w fun e w' => e = .returned (.int .i64 (numR r).1) ∧ RdAt w' p (numR r).2 ∧ Fr (One p) w w' := by
  have HR := Lib.hid h
  have HT := Lib.hid hT
  have hlw : (wordR r).1.length ≤ 131072 := by
    obtain ⟨l, b⟩ := r
    obtain ⟨A, _, _, hl⟩ := h
    cases l with
    | nil => show ([] : Bs).length ≤ _; simp
    | cons x t => exact hl x (by simp)
  clear h hT
  go_enter Tryd.func50, Tryd.ntmps50
  go_wp2_with fail
  refine (rword_any w p r HR.out).mono ?_
  rintro e w1 ⟨rfl, h1, f1⟩
  have H1 := Lib.hid h1
  have F1 := Lib.hid f1
  have T1 := Lib.hid (HT.out.one hp f1)
  have HN : Hid (numR r = (atoiV (wordR r).1, ((wordR r).2.1, (wordR r).2.2 || !numOk (wordR r).1))) := rfl
  clear h1 f1
  generalize (wordR r).1 = x at HN hlw
  generalize (wordR r).2 = q at HN H1
  have hav := atoiV_bounds x
  go_wp2_with fail
  refine (atoi_any x (by omega) _ T1.out).mono ?_
  rintro e w2 ⟨⟨v, rfl, hv⟩, b2⟩
  have H2 := Lib.hid (H1.out.below b2)
  have F2 := Lib.hid (F1.out.below b2)
  have T2 := Lib.hid (T1.out.below T1.out.size b2)
  clear b2
  obtain ⟨A, hb, _⟩ := H2.out
  have c0 := hb.cell 0
  have c1 := hb.cell 1
  have f1 := hb.frozen 1
  simp only [List.getElem?_toArray] at c0 c1
  clear hb
  obtain ⟨ws, bad⟩ := q
  cases bad with
  | true =>
    have HE : Hid (numR r = (atoiV x, (ws, true))) := by unfold Hid; rw [HN.out]; rfl
    have HRes : Hid (RdAt (w2.setCell ⟨p, 1, none⟩ (.bool true)) p (ws, true)) := H2.out.bad true
    rcases hv with ⟨hv, rfl⟩ | ⟨hv, a, rfl⟩
    all_goals
      clear hv
      go_wp2_with fail
      go_ret
      rw [HE.out]
      exact ⟨rfl, HRes.out, F2.out.one 1 _⟩
  | false =>
    rcases hv with ⟨hv, rfl⟩ | ⟨hv, a, rfl⟩
    · have HNO : Hid (numOk x = (Lib.itoa (atoiV x) == x)) := by unfold Hid; rw [numOk_of, hv]; rfl
      clear hv
      go_wp2_with fail
      refine (itoa_any _ hav.1 hav.2 _ T2.out).mono ?_
      rintro e w3 ⟨rfl, b3⟩
      have H3 := Lib.hid (H2.out.below b3)
      have F3 := Lib.hid (F2.out.below b3)
      clear b3 c0 c1 f1
      obtain ⟨A3, hb3, _⟩ := H3.out
      have c0 := hb3.cell 0
      have c1 := hb3.cell 1
      have f1 := hb3.frozen 1
      simp only [List.getElem?_toArray] at c0 c1
      clear hb3
      cases hq : (Lib.itoa (atoiV x) == x) with
      | true =>
        have hq2 : ((ba (Lib.itoa (atoiV x))).toList == (ba x).toList) = true := by rw [ByteArray.toList_eq, ByteArray.toList_eq]; exact hq
        have HE : Hid (numR r = (atoiV x, (ws, false))) := by unfold Hid; rw [HN.out, HNO.out, hq]; rfl
        have HRes : Hid (RdAt (w3.setCell ⟨p, 1, none⟩ (.bool false)) p (ws, false)) := H3.out.bad false
        clear hq
        go_wp2_with fail
        go_ret
        rw [HE.out]
        exact ⟨rfl, HRes.out, F3.out.one 1 _⟩
      | false =>
        have hq2 : ((ba (Lib.itoa (atoiV x))).toList == (ba x).toList) = false := by rw [ByteArray.toList_eq, ByteArray.toList_eq]; exact hq
        have HE : Hid (numR r = (atoiV x, (ws, true))) := by unfold Hid; rw [HN.out, HNO.out, hq]; rfl
        have HRes : Hid (RdAt (w3.setCell ⟨p, 1, none⟩ (.bool true)) p (ws, true)) := H3.out.bad true
        clear hq
        go_wp2_with fail
        go_ret
        rw [HE.out]
        exact ⟨rfl, HRes.out, F3.out.one 1 _⟩
    · have HE : Hid (numR r = (atoiV x, (ws, true))) := by unfold Hid; rw [HN.out, numOk_of, hv]; rfl
      have HRes : Hid (RdAt (w2.setCell ⟨p, 1, none⟩ (.bool true)) p (ws, true)) := H2.out.bad true
      clear hv
      go_wp2_with fail
      go_ret
      rw [HE.out]
      exact ⟨rfl, HRes.out, F2.out.one 1 _⟩

set_option maxRecDepth 100000 in
theorem rtext_any (w : World) (p : Nat) (r : Rd) (h : RdAt w p r) (hT : Tabs w) (hp : 8 ≤ p) :
    Calls Tryd.prog 84 #[.pointer (some ⟨p, 0, none⟩)] w fun e w' => e = .returned (.string (ba (textR r).1)) ∧ RdAt w' p (textR r).2 ∧ Fr (One p) w w' := by
  have HR := Lib.hid h
  have HT := Lib.hid hT
  have hlw : (wordR r).1.length ≤ 131072 := by
    obtain ⟨l, b⟩ := r
    obtain ⟨A, _, _, hl⟩ := h
    cases l with
    | nil => show ([] : Bs).length ≤ _; simp
    | cons x t => exact hl x (by simp)
  clear h hT
  go_enter Tryd.func84, Tryd.ntmps84
  go_wp2_with fail
  refine (rword_any w p r HR.out).mono ?_
  rintro e w1 ⟨rfl, h1, f1⟩
  have H1 := Lib.hid h1
  have F1 := Lib.hid f1
  have T1 := Lib.hid (HT.out.one hp f1)
  have HN : Hid (textR r = ((textP (wordR r).1).getD [], ((wordR r).2.1, (wordR r).2.2 || (textP (wordR r).1).isNone))) := rfl
  clear h1 f1
  generalize (wordR r).1 = x at HN hlw
  generalize (wordR r).2 = q at HN H1
  go_wp2_with fail
  refine (text_any x (by omega) _ T1.out).mono ?_
  rintro e w2 ⟨rfl, b2⟩
  have H2 := Lib.hid (H1.out.below b2)
  have F2 := Lib.hid (F1.out.below b2)
  clear b2
  obtain ⟨A, hb, _⟩ := H2.out
  have c0 := hb.cell 0
  have c1 := hb.cell 1
  have f1 := hb.frozen 1
  simp only [List.getElem?_toArray] at c0 c1
  clear hb
  obtain ⟨ws, bad⟩ := q
  obtain ⟨k, hk⟩ : ∃ k, textE (textP x) = k := ⟨_, rfl⟩
  have hkk : (k = 0 ∧ (textP x).isNone = false) ∨ (k = 4 ∧ (textP x).isNone = true) := by
    rw [← hk]; unfold textE
    cases (textP x).isNone <;> simp
  have HE : Hid (numR r = numR r ∧ textR r = ((textP x).getD [], (ws, bad || (textP x).isNone))) := ⟨rfl, HN.out⟩
  have HRes : Hid (RdAt (w2.setCell ⟨p, 1, none⟩ (.bool (bad || (textP x).isNone))) p (ws, bad || (textP x).isNone)) := H2.out.bad _
  rw [hk]
  clear hk
  cases bad with
  | true =>
    go_wp2_with fail
    go_ret
    rw [HE.out.2]
    exact ⟨rfl, HRes.out, F2.out.one 1 _⟩
  | false =>
    rcases hkk with ⟨rfl, hk⟩ | ⟨rfl, hk⟩
    all_goals
      have HK := Lib.hid hk
      rw [hk] at HRes HE
      clear hk
      go_wp2_with fail
      go_ret
      rw [HE.out.2]
      exact ⟨rfl, HRes.out, F2.out.one 1 _⟩

theorem toList_upW (x : Bs) : ((ba x).toList == [117, 112]) = (x == upW) := by rw [ByteArray.toList_eq]; rfl
theorem toList_downW (x : Bs) : ((ba x).toList == [100, 111, 119, 110]) = (x == downW) := by rw [ByteArray.toList_eq]; rfl

set_option maxRecDepth 100000 in
theorem rway_any (w : World) (p : Nat) (r : Rd) (h : RdAt w p r) :
    Calls Tryd.prog 52 #[.pointer (some ⟨p, 0, none⟩)] w fun e w' => e = .returned (.bool (wayR r).1) ∧ RdAt w' p (wayR r).2 ∧ Fr (One p) w w' := by
  have HR := Lib.hid h
  clear h
  go_enter Tryd.func52, Tryd.ntmps52
  go_wp2_with fail
  refine (rword_any w p r HR.out).mono ?_
  rintro e w1 ⟨rfl, h1, f1⟩
  have H1 := Lib.hid h1
  have F1 := Lib.hid f1
  have HN : Hid (wayR r = ((wordR r).1 == upW, ((wordR r).2.1, (wordR r).2.2 || !((wordR r).1 == upW || (wordR r).1 == downW)))) := rfl
  clear h1 f1
  generalize (wordR r).1 = x at HN
  generalize (wordR r).2 = q at HN H1
  obtain ⟨A, hb, _⟩ := H1.out
  have c0 := hb.cell 0
  have c1 := hb.cell 1
  have f1 := hb.frozen 1
  simp only [List.getElem?_toArray] at c0 c1
  clear hb
  obtain ⟨ws, bad⟩ := q
  have HRes : Hid (RdAt (w1.setCell ⟨p, 1, none⟩ (.bool (bad || !(x == upW || x == downW)))) p (ws, bad || !(x == upW || x == downW))) := H1.out.bad _
  have q1 := toList_upW x
  have q2 := toList_downW x
  cases hu : (x == upW) <;> cases hd : (x == downW)
  all_goals
    rw [hu] at q1 HN HRes
    rw [hd] at q2 HN HRes
    clear hu hd
    cases bad
    all_goals
      go_wp2_with fail
      go_ret
      rw [HN.out]
      exact ⟨rfl, HRes.out, F1.out.one 1 _⟩

end Go.Proofs.YtbikplckehbcnaaDoor
