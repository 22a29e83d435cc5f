/- seneschallaw08.laid: a group's leaves. -/
import Derived.Test.YtbikplckehbcnaaDoorPowP
import Derived.Laws.OwnMore
set_option linter.unusedVariables false
set_option linter.unusedSimpArgs false
namespace Go.Proofs.YtbikplckehbcnaaDoor
open Go Go.RowKit

def lfCells (ls : List LfM) : List Value := ls.flatMap fun m => [.int .i64 m.n, .int .i64 m.l, .slice m.A m.xs.length m.c]
theorem lfCells_get (ls : List LfM) : ∀ q, (lfCells ls)[q * 3]? = (ls[q]?).map (fun m => Value.int .i64 m.n) ∧ (lfCells ls)[q * 3 + 1]? = (ls[q]?).map (fun m => Value.int .i64 m.l) ∧ (lfCells ls)[q * 3 + 2]? = (ls[q]?).map (fun m => Value.slice m.A m.xs.length m.c) := by
  induction ls with
  | nil => intro q; simp [lfCells]
  | cons x xs ih =>
    intro q
    have e : lfCells (x :: xs) = Value.int .i64 x.n :: Value.int .i64 x.l :: Value.slice x.A x.xs.length x.c :: lfCells xs := rfl
    rw [e]
    cases q with
    | zero => simp
    | succ q =>
      rw [show (q + 1) * 3 = q * 3 + 1 + 1 + 1 by omega, show q * 3 + 1 + 1 + 1 + 1 = (q * 3 + 1) + 1 + 1 + 1 by omega, show q * 3 + 1 + 1 + 1 + 2 = (q * 3 + 2) + 1 + 1 + 1 by omega]
      simp only [List.getElem?_cons_succ]
      exact ih q
theorem lfCells_snoc (ls : List LfM) (m : LfM) : lfCells (ls ++ [m]) = lfCells ls ++ [.int .i64 m.n, .int .i64 m.l, .slice m.A m.xs.length m.c] := by simp [lfCells]
theorem leaf_info : ((Tryd.prog.info? 27).map fun i => (i.zero, i.size, i.bytes)) = some (some (.agg #[.int .i64 0, .int .i64 0, .slice none 0 0]), 3, 40) := by kernel_rfl

/-- The leaves laid so far. -/
structure Lad (lo : Nat) (wr : World) (v : Value) (ls : List LfM) (lsn : Int) (b : Int) : Prop where
  row : wr.ownsRow lo 27 3 v ls.length (lfCells ls)
  sl : ∀ m ∈ ls, (m.xs = [(true, strOfNums [b])] ∧ 0 ≤ m.n ∧ m.n < 5 ∧ m.l = lsn) ∧ Slots wr (fun k => k < lo ∨ v.ownBlock = some k) m.A m.xs
  nd : (ls.map (·.n)).Nodup
theorem Lad.leaves {lo : Nat} {w : World} {v : Value} {ls : List LfM} {lsn b : Int} (h : Lad lo w v ls lsn b) : ∃ A c, v = .slice A ls.length c ∧ Leaves w (fun k => k < lo) A ls := by
  rcases Nat.eq_zero_or_pos ls.length with hz | hz
  · obtain ⟨A, c, e⟩ := own_slice h.row
    exact ⟨A, c, e, fun h => by omega⟩
  · obtain ⟨g, c, e, _⟩ := h.row.form hz
    subst e
    refine ⟨_, c, rfl, fun _ => ⟨g, 0, rfl, (h.row.lt g rfl).2, by have := (h.row.lt g rfl).1; omega, fun j m hm => ?_⟩⟩
    obtain ⟨g0, g1, g2⟩ := lfCells_get ls j
    rw [hm] at g0 g1 g2
    have h0 := h.row.cells (g := g) rfl (j * 3) _ g0
    have h1 := h.row.cells (g := g) rfl (j * 3 + 1) _ g1
    have h2 := h.row.cells (g := g) rfl (j * 3 + 2) _ g2
    rw [Addr.add_lit] at h0 h1 h2
    obtain ⟨⟨e1, e2, e3, _⟩, hs⟩ := h.sl m (List.mem_of_getElem? hm)
    refine ⟨h0, by rw [← Nat.add_assoc] at h1; exact h1, by rw [← Nat.add_assoc] at h2; exact h2, ?_, by rw [e1]; simp, hs.mono (fun k _ hk => .inl hk)⟩
    simp [Lit.wf, IntKind.min, IntKind.max, IntKind.signed, IntKind.bits]
    omega
theorem Lad.below {lo : Nat} {w w' : World} {v : Value} {ls : List LfM} {lsn b : Int} (h : Lad lo w v ls lsn b) (hb : Below w.heap.size w w') : Lad lo w' v ls lsn b :=
  ⟨own_fr h.row ((Fr.refl Nope w).below hb) (fun _ _ h => h), fun m hm => ⟨(h.sl m hm).1, (h.sl m hm).2.fr ((Fr.refl _ w).below hb)⟩, h.nd⟩
theorem Lad.snoc {lo : Nat} {w w2 : World} {v v2 : Value} {ls : List LfM} {lsn b n : Int} {A : Option Addr} {c : Nat} (h : Lad lo w v ls lsn b) (hs : Slots w (fun k => k < lo ∨ v.ownBlock = some k) A [(true, strOfNums [b])]) (hn : 0 ≤ n ∧ n < 5) (hnd : n ∉ ls.map (·.n))
    (hrow : w2.ownsRow lo 27 3 v2 (ls.length + 1) (lfCells ls ++ [.int .i64 n, .int .i64 lsn, .slice A 1 c])) (hg : w.grownBy w2 v.ownBlock) (hat : v2.ownBlock = v.ownBlock ∨ v2.ownBlock = some w.heap.size) : Lad lo w2 v2 (ls ++ [⟨n, lsn, A, c, [(true, strOfNums [b])]⟩]) lsn b := by
  have hf : Fr (fun k => k < lo ∨ v.ownBlock = some k) w w2 := (Fr.refl _ w).grown hg (fun k hk => .inl (.inr hk))
  have up : ∀ (A : Option Addr) (xs : List Slt), Slots w (fun k => k < lo ∨ v.ownBlock = some k) A xs → Slots w2 (fun k => k < lo ∨ v2.ownBlock = some k) A xs := by
    intro A xs hx
    rcases hat with e | e
    · rw [e]; exact hx.fr hf
    · have h1 : Slots w (fun k => (k < lo ∨ v.ownBlock = some k) ∨ k = w.heap.size) A xs := hx.mono (fun k hk hk2 => by
        rcases hk2 with hk2 | hk2
        · exact hk2
        · omega)
      exact (h1.fr (hf.mono (fun k hk => .inl hk))).mono (fun k _ hk => by
        rcases hk with hk | hk
        · exact .inl (.inl hk)
        · rw [e] at hk; exact .inr (Option.some.inj hk).symm)
  refine ⟨?_, fun m hm => ?_, ?_⟩
  · rw [List.length_append, List.length_singleton, lfCells_snoc]
    exact hrow
  · rcases List.mem_append.1 hm with hm | hm
    · exact ⟨(h.sl m hm).1, up _ _ (h.sl m hm).2⟩
    · rw [List.mem_singleton.1 hm]
      exact ⟨⟨rfl, hn.1, hn.2, rfl⟩, up _ _ hs⟩
  · rw [List.map_append, List.map_singleton, List.nodup_append]
    refine ⟨h.nd, by simp, fun a ha b hb e => ?_⟩
    simp at hb
    subst hb
    exact hnd (e ▸ ha)

/-- What laid answers. -/
def LaidOut (w w' : World) (lsn b : Int) (e : Ending) : Prop := ∃ v ls, e = .returned v ∧ ls.length ≤ 3 ∧ Lad w.heap.size w' v ls lsn b

set_option maxRecDepth 100000 in
set_option maxHeartbeats 4000000 in
theorem laid_any (w : World) (F : Nat → Prop) (A : Option Addr) (c : Nat) (xs : List Int) (hI : Ints w F A xs) (b lsn : Int) (hb0 : 0 ≤ b ∧ b < 256) :
    Calls Tryd.prog 19 #[.agg #[.slice A xs.length c, .int .u8 b], .int .i64 lsn] w fun e w' => LaidOut w w' lsn b e ∧ Below w.heap.size w w' := by
  obtain ⟨i0, hi, hz⟩ := Option.map_eq_some_iff.1 leaf_info
  simp only [Prod.mk.injEq] at hz
  have HZ := Lib.hid hz
  have HI := Lib.hid hi
  have HXS := Lib.hid hI
  have hxl := hI.1
  clear hI hz hi
  have HG0 := Lib.hid (Blk.new w 54 #[.slice A xs.length c, .int .u8 b])
  have HB0 := Lib.hid (((Below.refl w.heap.size w).alloc (Nat.le_refl _) (.cells #[.slice A xs.length c, .int .u8 b] 54)).alloc (by simp) (.cells #[] 27))
  have HL0 : Hid (Lad w.heap.size ((w.alloc (.cells #[.slice A xs.length c, .int .u8 b] 54)).alloc (.cells #[] 27)) (.slice (some ⟨w.heap.size + 1, 0, none⟩) 0 0) [] lsn b) := by
    refine ⟨?_, by simp, by simp⟩
    have := World.ownsRow_lit (base := w.heap.size) (e := 27) (size := 3) (w.alloc (.cells #[.slice A xs.length c, .int .u8 b] 54)) #[] 0 (by simp) (by simp) (by simp)
    rw [World.size_alloc] at this
    exact this
  go_enter Tryd.func19, Tryd.ntmps19
  go_wp2_with fail
  go_loopw [5, 6] (fun v i wr => ∃ (k : Nat) (ls : List LfM), i = .int .i64 k ∧ k ≤ xs.length ∧ ls.length ≤ 3 ∧ Hid (Lad w.heap.size wr v ls lsn b) ∧ Hid (Below w.heap.size w wr ∧ Blk wr w.heap.size 54 #[.slice A xs.length c, .int .u8 b])) (fun _ i _ => xs.length - (intOf i).toNat)
  case atStart => exact ⟨0, [], rfl, by omega, by simp, HL0.out, HB0.out, HG0.out.alloc _⟩
  case round =>
    obtain ⟨k, ls, rfl, hk, hl3, hL, hP⟩ := hrel
    have hg0 := hP.out.2.cell 0
    have hg1 := hP.out.2.cell 1
    simp only [List.getElem?_toArray] at hg0 hg1
    obtain ⟨Av, cv, hv⟩ := own_slice hL.out.row
    have HV := Lib.hid hv
    subst hv
    by_cases hlt : k < xs.length
    · by_cases hl2 : ls.length < 3
      · obtain ⟨ad, rfl, hbw, hnF, hc⟩ := HXS.out.2 (by omega)
        obtain ⟨x, hx⟩ : ∃ x, xs.getD k 0 = x := ⟨_, rfl⟩
        have hd := (hP.out.1.cell (p := ad.add k) (by rw [add_block]; exact hbw)).trans (hc k hlt)
        rw [hx] at hd
        clear hc hx
        obtain ⟨u1, u2, u3⟩ := umod x 5 (by omega) (by omega)
        have HU : Hid (0 ≤ wrap64 ((IntKind.u64.wrap x).tmod 5) ∧ wrap64 ((IntKind.u64.wrap x).tmod 5) < 5) := by unfold Hid; rw [u3]; exact ⟨u1, u2⟩
        clear u1 u2 u3
        go_wp2_with fail
        revert HU
        generalize wrap64 ((IntKind.u64.wrap x).tmod 5) = N
        intro HU
        go_loop [8, 9] (fun t j => ∃ jj : Nat, j = .int .i64 jj ∧ jj ≤ ls.length ∧ t = .bool (decide (N ∈ (ls.take jj).map (·.n)))) (fun _ j => ls.length - (intOf j).toNat)
        case atStart => exact ⟨0, rfl, by omega, by simp⟩
        case round =>
          obtain ⟨jj, rfl, hj, rfl⟩ := hrel
          by_cases hjl : jj < ls.length
          · obtain ⟨m, hm⟩ : ∃ m, ls[jj]? = some m := ⟨_, List.getElem?_eq_getElem hjl⟩
            obtain ⟨g, cv', hvf, _⟩ := hL.out.row.form (by omega)
            obtain ⟨rfl, rfl⟩ : Av = some ⟨g, 0, none⟩ ∧ cv = cv' := by injection hvf with e1 _ e3; exact ⟨e1, e3⟩
            obtain ⟨g0, _, _⟩ := lfCells_get ls jj
            rw [hm] at g0
            have hcn := hL.out.row.cells (g := g) rfl _ _ g0
            rw [Addr.add_lit, Nat.zero_add] at hcn
            have HN : Hid (decide (N ∈ (ls.take (jj + 1)).map (·.n)) = (decide (N ∈ (ls.take jj).map (·.n)) || (m.n == N))) := by
              unfold Hid
              rw [List.take_add_one, hm]
              rw [Bool.eq_iff_iff]
              simp
              exact or_congr Iff.rfl eq_comm
            clear g0 hm hvf
            cases hin : decide (N ∈ (ls.take jj).map (·.n)) with
            | true =>
              rw [hin] at HN
              clear hin
              go_wp2_with fail
              go_round
              case rel => exact ⟨jj + 1, by go_num, by omega, by rw [HN.out]; rfl⟩
              case measure => simp [intOf]; omega
            | false =>
              rw [hin] at HN
              clear hin
              cases heq : (m.n == N) with
              | true =>
                rw [heq] at HN
                go_wp2_with fail
                go_round
                case rel => exact ⟨jj + 1, by go_num, by omega, by rw [HN.out]; rfl⟩
                case measure => simp [intOf]; omega
              | false =>
                rw [heq] at HN
                go_wp2_with fail
                go_round
                case rel => exact ⟨jj + 1, by go_num, by omega, by rw [HN.out]; rfl⟩
                case measure => simp [intOf]; omega
          · obtain rfl : jj = ls.length := by omega
            rw [List.take_length]
            cases hin : decide (N ∈ ls.map (·.n)) with
            | true =>
              go_wp2_with fail
              go_roundw
              case rel => exact ⟨k + 1, ls, by go_num, by omega, hl3, hL, hP⟩
              case measure => simp [intOf]; omega
            | false =>
              have HNI : Hid (N ∉ ls.map (·.n)) := of_decide_eq_false hin
              clear hin
              have hcv := run_convert_bytes_arg (P := Tryd.prog) (wr.alloc (.cells #[.int .u8 b] 5)) 92 5 Tryd.underlying92 Tryd.underlying5 wr.heap.size 0 1 1 [b] rfl (fun i hi => by
                obtain rfl : i = 0 := by omega
                exact (Blk.new wr 5 #[.int .u8 b]).cell 0) 9 Tryd.underlying9
              have hsz1 : (strOfNums [b]).size ≤ maxLen := by rw [strOfNums_size]; simp [maxLen]
              have HSZ := Lib.hid hsz1
              clear hsz1
              obtain ⟨sb, hsb⟩ : ∃ sb, strOfNums [b] = sb := ⟨_, rfl⟩
              have HSB := Lib.hid hsb
              rw [hsb] at hcv HSZ
              clear hsb
              have HBY := Lib.hid ((Below.refl wr.heap.size wr).alloc (Nat.le_refl _) (.cells #[.int .u8 b] 5))
              have hl3' := hl2
              go_wp2_with (first
                | (go_at_call 14; refine (image_any _ lsn sb HSZ.out).mono ?_; rintro e w4 ⟨rfl, hs4, b4⟩; have HS4 := Lib.hid hs4; have HB4 := Lib.hid (HBY.out.trans (b4.mono HBY.out.size)); have HL4 := Lib.hid (hL.out.below HB4.out); clear hs4 b4)
                | (at_builtin; refine wpList_append_own_at _ rfl _ _ 22 rfl w.heap.size 27 i0 (.agg #[.int .i64 0, .int .i64 0, .slice none 0 0]) 3 40 Tryd.underlying22 HI.out HZ.out.1 HZ.out.2.1 HZ.out.2.2 rfl (by decide) _ ls.length (lfCells ls) rfl (HL4.out.row.alloc _) ⟨w4.heap.size, 0, none⟩ 1 1 [.int .i64 N, .int .i64 lsn, .slice (some ⟨wr.heap.size + 1 + 1, 0, none⟩) 1 1] rfl rfl (World.news_of_block (cs := #[.int .i64 N, .int .i64 lsn, .slice (some ⟨wr.heap.size + 1 + 1, 0, none⟩) 1 1]) (t := 27) (fr := (0, 0)) (heap_alloc_new w4 _)) ?c1 ?c2 ?c3 ?c4 ?_; (case c1 => intro u hu; simp at hu; rcases hu with rfl | rfl | rfl <;> rfl); (case c2 => simp only [maxLen]; omega); (case c3 => omega); (case c4 => have := hP.out.1.size; have := HB4.out.size; simp; omega); intro v2 w2 hown2 hg2 _ hat2; have HO2 := Lib.hid hown2; have HG2 := Lib.hid hg2; have HA2 := Lib.hid hat2; clear hown2 hg2 hat2))
              go_roundw
              case rel =>
                have hba := (HB4.out.alloc HB4.out.size (.cells #[.int .i64 N, .int .i64 lsn, .slice (some ⟨wr.heap.size + 1 + 1, 0, none⟩) 1 1] 27))
                have hla := hL.out.below hba
                have hsl : Slots (w4.alloc (.cells #[.int .i64 N, .int .i64 lsn, .slice (some ⟨wr.heap.size + 1 + 1, 0, none⟩) 1 1] 27)) (fun k => k < w.heap.size ∨ (Value.slice Av ls.length cv).ownBlock = some k) (some ⟨wr.heap.size + 1 + 1, 0, none⟩) [(true, strOfNums [b])] := by
                  have h4 := HS4.out
                  rw [World.size_alloc, ← HSB.out] at h4
                  refine (h4.fr ((Fr.refl _ w4).alloc _)).mono (fun k hk hk2 => ?_)
                  rcases hk2 with hk2 | hk2
                  · have := hP.out.1.size; omega
                  · have := (hL.out.row.lt k hk2).2; omega
                have hsn := hla.snoc hsl HU.out HNI.out HO2.out HG2.out HA2.out
                refine ⟨k + 1, ls ++ [⟨N, lsn, some ⟨wr.heap.size + 1 + 1, 0, none⟩, 1, [(true, strOfNums [b])]⟩], by go_num, by omega, by rw [List.length_append, List.length_singleton]; omega, ?_, ?_, ?_⟩
                · exact hsn
                · exact hP.out.1.trans ((hba.mono hP.out.1.size).trans (((Fr.refl (fun k => w.heap.size ≤ k) _).grown HG2.out (fun k hk => .inl (hL.out.row.lt k hk).1)).toBelow (Nat.le_trans hP.out.1.size hba.size) (fun k hk => hk)))
                · exact (hP.out.2.below hba hP.out.2.lt).grown HG2.out (fun e => own_blk_ne hL.out.row hP.out.2 (by decide) e.symm)
              case measure => simp [intOf]; omega
      · go_wp2_with fail
        go_ret
        exact ⟨⟨_, ls, rfl, hl3, hL.out⟩, hP.out.1⟩
    · go_wp2_with fail
      go_ret
      exact ⟨⟨_, ls, rfl, hl3, hL.out⟩, hP.out.1⟩

end Go.Proofs.YtbikplckehbcnaaDoor
