/- strconv.ParseUint(s, 16, 8), tome.Text: the walks. -/
import Derived.Test.YtbikplckehbcnaaDoorTmT
set_option linter.unusedVariables false
set_option linter.unusedSimpArgs false
namespace Go.Proofs.YtbikplckehbcnaaDoor
open Go Go.RowKit

theorem Tabs.esc {w : World} (h : Tabs w) : ∃ tp p, w.cell? ⟨2, 0, none⟩ = some (.iface tp p) := by
  obtain ⟨tp, p, e⟩ := h.es
  exact ⟨tp, p, by rw [World.var?_cell glob_es e]; rfl⟩

set_option maxRecDepth 100000 in
theorem uparse_any (t : ByteArray) (hmax : t.size ≤ 2) (w : World) (hT : Tabs w) :
    Calls Tryd.prog 58 #[.string t, .int .i64 16, .int .i64 8] w fun e w' => (∃ n v, e = .returned (.tuple #[.int .u64 n, v]) ∧ ((∃ k : Nat, hexP t.data.toList = some k ∧ n = (k : Int) ∧ v = .nilIface) ∨ (hexP t.data.toList = none ∧ n = 0 ∧ ∃ a, v = .iface 174 a))) ∧ Below w.heap.size w w' := by
  have HT := Lib.hid hT
  clear hT
  go_enter Tryd.func58, Tryd.ntmps58
  go_wp2_with fail
  refine (iparse_any t hmax w).mono ?_
  rintro e w1 ⟨rfl, b1⟩
  have HB1 := Lib.hid b1
  have HT1 := Lib.hid (HT.out.below HT.out.size b1)
  clear b1
  cases hx : hexP t.data.toList with
  | some k =>
    have HX := Lib.hid hx
    clear hx
    simp only [hexV]
    go_wp2_with fail
    go_ret2
    exact ⟨⟨_, _, rfl, .inl ⟨k, HX.out, rfl, rfl⟩⟩, HB1.out⟩
  | none =>
    have HX := Lib.hid hx
    clear hx
    simp only [hexV]
    go_wp2_with fail
    obtain ⟨tp, p, he⟩ := HT1.out.esc
    have HE := Lib.hid he
    clear he
    refine (Tryd.strconv_toError_syntax _ t 16 8 _ _ (by omega) HE.out (.inr ⟨_, _, rfl⟩)).mono ?_
    rintro e w2 ⟨N, rfl, _, _, b2⟩
    have HB2 := Lib.hid (HB1.out.trans (b2.mono HB1.out.size))
    clear b2
    go_wp2_with fail
    go_ret2
    exact ⟨⟨_, _, rfl, .inr ⟨HX.out, rfl, _, rfl⟩⟩, HB2.out⟩

/-! ### Text: the plain law of its loop -/
def TInv (w : Bs) (i : Nat) (out : Bs) : Prop := ∀ s, wordP s = w → ∃ rest, s = out ++ rest ∧ w.drop i = rest.flatMap encB
theorem tinv_zero {w : Bs} (h : w ≠ [37]) : TInv w 0 [] := fun s hs => by
  refine ⟨s, rfl, ?_⟩
  rw [List.drop_zero, ← hs]
  unfold wordP at hs ⊢
  split
  · rename_i he; rw [if_pos he] at hs; exact absurd hs.symm h
  · rfl
theorem hexP_lt {l : Bs} {n : Nat} (hl : l.length ≤ 2) (h : hexP l = some n) : n < 256 := by
  unfold hexP at h
  split at h
  · cases h
  · match l, hl with
    | [], _ => simp [hxF] at h; omega
    | [a], _ =>
      simp only [hxF] at h
      split at h
      · cases h
      · rename_i d hd
        have := hxV_lt hd
        injection h with h
        omega
    | [a, b], _ =>
      simp only [hxF] at h
      split at h
      · cases h
      · rename_i d hd
        have := hxV_lt hd
        split at h
        · cases h
        · rename_i e he
          have := hxV_lt he
          injection h with h
          omega
theorem drop_cons {w : Bs} {i : Nat} {c : UInt8} (h : w[i]? = some c) : w.drop i = c :: w.drop (i + 1) := by
  obtain ⟨hi, e⟩ := List.getElem?_eq_some_iff.1 h
  rw [List.drop_eq_getElem_cons hi, e]
theorem tinv_step {w out : Bs} {i : Nat} {c : UInt8} (hc : w[i]? = some c) (h : TInv w i out) : ∀ s, wordP s = w → ∃ (d : UInt8) (rest : Bs), s = out ++ d :: rest ∧ c :: w.drop (i + 1) = encB d ++ rest.flatMap encB := fun s hs => by
  obtain ⟨rest, h1, h2⟩ := h s hs
  rw [drop_cons hc] at h2
  cases rest with
  | nil => simp at h2
  | cons d rest => exact ⟨d, rest, h1, by rw [h2, List.flatMap_cons]⟩
theorem tinv_plain {w out : Bs} {i : Nat} {c : UInt8} (hc : w[i]? = some c) (hn : c ≠ 37) (h : TInv w i out) : TInv w (i + 1) (out ++ [c]) := fun s hs => by
  obtain ⟨d, rest, h1, h2⟩ := tinv_step hc h s hs
  cases hp : plainB d with
  | true =>
    rw [enc_one d hp] at h2
    simp at h2
    exact ⟨rest, by rw [h1, h2.1]; simp, h2.2⟩
  | false =>
    rw [enc_three d hp] at h2
    simp at h2
    exact absurd h2.1 hn
theorem tinv_pair {w out : Bs} {i : Nat} (hc : w[i]? = some 37) (h : TInv w i out) : ∀ s, wordP s = w → ∃ (d : UInt8) (rest : Bs), s = out ++ d :: rest ∧ (w.drop (i + 1)).take 2 = [hexD (d >>> 4), hexD (d &&& 15)] ∧ w.drop (i + 3) = rest.flatMap encB := fun s hs => by
  obtain ⟨d, rest, h1, h2⟩ := tinv_step hc h s hs
  cases hp : plainB d with
  | true =>
    rw [enc_one d hp] at h2
    simp at h2
    exact absurd h2.1.symm (plain_ne d hp)
  | false =>
    rw [enc_three d hp] at h2
    simp only [List.cons_append, List.nil_append, List.cons.injEq, true_and] at h2
    refine ⟨d, rest, h1, by rw [h2]; rfl, ?_⟩
    have : w.drop (i + 3) = (w.drop (i + 1)).drop 2 := by rw [List.drop_drop]
    rw [this, h2]
    rfl
theorem tinv_hex {w out : Bs} {i n : Nat} (hc : w[i]? = some 37) (hx : hexP ((w.drop (i + 1)).take 2) = some n) (h : TInv w i out) : TInv w (i + 3) (out ++ [UInt8.ofNat n]) := fun s hs => by
  obtain ⟨d, rest, h1, h2, h3⟩ := tinv_pair hc h s hs
  rw [h2, hex_pair d] at hx
  injection hx with hx
  refine ⟨rest, ?_, h3⟩
  rw [h1, ← hx]
  simp
theorem tinv_bad {w out : Bs} {i : Nat} (hc : w[i]? = some 37) (hx : hexP ((w.drop (i + 1)).take 2) = none) (h : TInv w i out) : textP w = none := text_none fun s hs => by
  obtain ⟨d, rest, h1, h2, h3⟩ := tinv_pair hc h s hs
  rw [h2, hex_pair d] at hx
  cases hx
theorem tinv_end {w out : Bs} {i : Nat} (hi : w.length ≤ i) (hx : wordP out ≠ w) (h : TInv w i out) : textP w = none := text_none fun s hs => by
  obtain ⟨rest, h1, h2⟩ := h s hs
  rw [List.drop_eq_nil_of_le hi] at h2
  cases rest with
  | nil => rw [List.append_nil] at h1; subst h1; exact hx hs
  | cons d rest =>
    rw [List.flatMap_cons] at h2
    exact enc_pos d (List.append_eq_nil_iff.1 h2.symm).1
theorem piece_of (w : Bs) (a b i : Nat) (ha : a = min (i + 1) w.length) (hb : b = min (i + 3) w.length) : ((ba w).extract a b).data.toList = (w.drop (i + 1)).take 2 ∧ ((ba w).extract a b).size ≤ 2 := by
  constructor
  · rw [Lib.extract_data, ba_list]
    subst ha hb
    apply List.ext_getElem?
    intro j
    rw [List.getElem?_take, List.getElem?_take, List.getElem?_drop, List.getElem?_drop]
    by_cases h1 : i + 1 ≤ w.length
    · rw [Nat.min_eq_left h1]
      by_cases h2 : j < 2
      · rw [if_pos h2]
        split
        · rfl
        · rw [List.getElem?_eq_none (by omega)]
      · rw [if_neg h2, if_neg (by omega)]
    · rw [if_neg (by omega)]
      split
      · rw [List.getElem?_eq_none (by omega)]
      · rfl
  · rw [ByteArray.size_extract]
    subst ha hb
    omega

/-! ### string([]byte) of a row of the call's own -/
theorem nums_of (l : Bs) : strOfNums (l.map fun c => (c.toNat : Int)) = ba l := by
  unfold strOfNums ba
  congr 2
  rw [List.map_map]
  conv => rhs; rw [← List.map_id l]
  apply List.map_congr_left
  intro c _
  simp
theorem conv_own {w : World} {base : Nat} {v : Value} {l : Bs} (h : w.ownsRow base 5 1 v l.length (Lib.byteCells l)) : (convert 92 9 v).run Tryd.prog w = .ok (.string (ba l)) w := by
  rcases h.2 with ⟨rfl, h0⟩ | ⟨g, cap, cur, rfl, _, hg, h1, h2, h3, h4⟩
  · obtain rfl := List.length_eq_zero_iff.1 h0
    exact run_convert_bytes_nil (P := Tryd.prog) w 92 5 Tryd.underlying92 Tryd.underlying5 0 0 9 Tryd.underlying9
  · have := run_convert_bytes_arg (P := Tryd.prog) w 92 5 Tryd.underlying92 Tryd.underlying5 g 0 l.length cap (l.map fun c => (c.toNat : Int)) (by simp) (fun i hi => by
      rw [Nat.zero_add, cell_of_row w g i cur _ _ hg]
      have e : (cur.toList.take (l.length * 1))[i]? = (Lib.byteCells l)[i]? := by rw [h4]
      rw [List.getElem?_take, if_pos (by omega)] at e
      rw [← Array.getElem?_toList, e]
      simp [Lib.byteCells, hi, List.getD]) 9 Tryd.underlying9
    rw [nums_of] at this
    exact this

/-- Text's error. -/
def textE (o : Option Bs) : Int := if o.isNone then 4 else 0
theorem byte_get {t : Bs} {i : Nat} {c : UInt8} (h : t[i]? = some c) (hi : i < (ba t).size) : (ba t)[i]'hi = c := by
  obtain ⟨hl, e⟩ := List.getElem?_eq_some_iff.1 h
  rw [← e]
  rfl

set_option maxRecDepth 100000 in
set_option maxHeartbeats 2000000 in
theorem text_any (t : Bs) (ht : t.length ≤ 1000000) (w : World) (hT : Tabs w) :
    Calls Tryd.prog 25 #[.string (ba t)] w fun e w' => e = .returned (.tuple #[.string (ba ((textP t).getD [])), .int .i64 (textE (textP t))]) ∧ Below w.heap.size w w' := by
  have HT := Lib.hid hT
  clear hT
  obtain ⟨i0, hi, hz0, hz1, hz2⟩ := info_parts info_byte
  by_cases h0 : t = [37]
  · subst h0
    show Calls _ _ #[.string ⟨#[37]⟩] w _
    have hcn := run_convert_bytes_nil (P := Tryd.prog) w 92 5 Tryd.underlying92 Tryd.underlying5 0 0 9 Tryd.underlying9
    go_enter Tryd.func25, Tryd.ntmps25
    go_wp2_with fail
    go_loopw [4, 5] (fun vo vi wr => vo = .slice none 0 0 ∧ vi = .int .i64 0 ∧ wr = w) (fun _ _ _ => 0)
    case atStart => exact ⟨rfl, rfl, rfl⟩
    case round =>
      obtain ⟨rfl, rfl, rfl⟩ := hrel
      go_wp2_with fail
      have hwd : Calls Tryd.prog 32 #[.string ByteArray.empty] wr fun e w' => e = .returned (.string ⟨#[37]⟩) ∧ Below wr.heap.size wr w' := word_any [] (by decide) wr
      refine hwd.mono ?_
      rintro e w1 ⟨rfl, b1⟩
      have hcn2 := run_convert_bytes_nil (P := Tryd.prog) w1 92 5 Tryd.underlying92 Tryd.underlying5 0 0 9 Tryd.underlying9
      go_wp2_with fail
      go_ret2
      exact ⟨rfl, b1⟩
  · have hsz : (ba t).size = t.length := rfl
    have hne : ((ba t).toList == [37]) = false := by
      rw [ByteArray.toList_eq, beq_eq_false_iff_ne]
      exact h0
    have HI0 := Lib.hid (tinv_zero h0)
    clear h0
    go_enter Tryd.func25, Tryd.ntmps25
    go_wp2_with fail
    go_loopw [4, 5] (fun vo vi wr => ∃ (i : Nat) (out : Bs), vi = .int .i64 i ∧ i ≤ t.length + 2 ∧ Hid (wr.ownsRow w.heap.size 5 1 vo out.length (Lib.byteCells out) ∧ Below w.heap.size w wr ∧ TInv t i out ∧ out.length ≤ i)) (fun _ vi _ => t.length + 2 - (intOf vi).toNat)
    case atStart => exact ⟨0, [], rfl, by omega, World.ownsRow_nil _ _ _ _, Below.refl _ _, HI0.out, by simp⟩
    case round =>
      obtain ⟨i, out, rfl, hile, hP⟩ := hrel
      by_cases hlt : i < t.length
      · obtain ⟨c, hc⟩ : ∃ c, t[i]? = some c := ⟨_, List.getElem?_eq_getElem hlt⟩
        have HC := Lib.hid hc
        by_cases h37 : c = 37
        · subst h37
          have HPC := Lib.hid (piece_of t (min ((i : Int) + 1) (t.length : Int)).toNat (min ((i : Int) + 3) (t.length : Int)).toNat i (by omega) (by omega))
          have hget : (ba t)[i]'(by rw [hsz]; exact hlt) = 37 := byte_get hc (by rw [hsz]; exact hlt)
          have HT1 := Lib.hid (HT.out.below HT.out.size hP.out.2.1)
          clear hc
          go_wp2_with fail
          refine (uparse_any _ HPC.out.2 _ HT1.out).mono ?_
          rintro e w1 ⟨⟨n, v, rfl, hcs⟩, b1⟩
          have HB1 := Lib.hid (hP.out.2.1.trans (b1.mono hP.out.2.1.size))
          have HO1 := Lib.hid (own_fr (F := Nope) hP.out.1 ((Fr.refl _ _).below b1) (fun _ _ h => h.elim))
          have hol := hP.out.2.2.2
          have HI := Lib.hid hP.out.2.2.1
          clear b1 hP HT1
          rcases hcs with ⟨m, hx, rfl, rfl⟩ | ⟨hx, rfl, a, rfl⟩
          · rw [HPC.out.1] at hx
            have hm : m < 256 := hexP_lt (by rw [List.length_take]; omega) hx
            have HN := Lib.hid (tinv_hex HC.out hx HI.out)
            have hcz : (UInt8.ofNat m).toNat = m := by simp; omega
            have HBC := Lib.hid (cells_snoc out (UInt8.ofNat m))
            rw [hcz] at HBC
            clear hx hcz HPC HI
            go_wp2_with (at_builtin; refine wpList_append_own _ rfl _ _ 92 rfl w.heap.size 5 i0 (.int .u8 0) 1 1 Tryd.underlying92 hi hz0 hz1 hz2 rfl (by decide) _ _ _ rfl (HO1.out.alloc _) ⟨w1.heap.size, 0, none⟩ 1 1 [.int .u8 (m : Int)] rfl rfl ?c1 ?c2 ?c3 ?c4 ?c5 ?_)
            case c1 =>
              intro j u hj
              match j, hj with
              | 0, hj => simp at hj; subst hj; simp [Addr.add]
            case c2 => intro u hu; simp at hu; subst hu; rfl
            case c3 => unfold maxLen; omega
            case c4 => omega
            case c5 => have := HB1.out.size; simp; omega
            intro v' w2 hown' hgrow _
            have H2 : Hid (w2.ownsRow w.heap.size 5 1 v' (out ++ [UInt8.ofNat m]).length (Lib.byteCells (out ++ [UInt8.ofNat m])) ∧ Below w.heap.size w w2) := by
              refine ⟨by rw [HBC.out]; simpa using hown', ?_⟩
              exact (HB1.out.alloc HB1.out.size _).grown hgrow (by have := HB1.out.size; simp; omega) (fun k hk => own_row_ge HO1.out k hk)
            clear hown' hgrow HBC HO1
            go_wp2_with fail
            go_roundw
            case rel => exact ⟨i + 3, out ++ [UInt8.ofNat m], by go_num, by omega, H2.out.1, H2.out.2, HN.out, by simp; omega⟩
            case measure => simp [intOf]; omega
          · rw [HPC.out.1] at hx
            have HX := Lib.hid (tinv_bad HC.out hx HI.out)
            clear hx HPC HI
            go_wp2_with fail
            go_ret2
            exact ⟨by rw [HX.out]; rfl, HB1.out⟩
        · have hget := byte_get hc (by rw [hsz]; exact hlt)
          have hg37 : ((c.toNat : Int) == 37) = false := by
            rw [beq_eq_false_iff_ne]; intro e; exact h37 (UInt8.toNat_inj.1 (by show c.toNat = 37; omega))
          have HN := Lib.hid (tinv_plain hc h37 hP.out.2.2.1)
          have hol := hP.out.2.2.2
          clear hc h37
          go_wp2_with (at_builtin; refine wpList_append_own _ rfl _ _ 92 rfl w.heap.size 5 i0 (.int .u8 0) 1 1 Tryd.underlying92 hi hz0 hz1 hz2 rfl (by decide) _ _ _ rfl (hP.out.1.alloc _) ⟨wr.heap.size, 0, none⟩ 1 1 [.int .u8 (c.toNat : Int)] rfl rfl ?c1 ?c2 ?c3 ?c4 ?c5 ?_)
          case c1 =>
            intro j u hj
            match j, hj with
            | 0, hj => simp at hj; subst hj; simp [Addr.add]
          case c2 => intro u hu; simp at hu; subst hu; rfl
          case c3 => unfold maxLen; omega
          case c4 => omega
          case c5 => have := hP.out.2.1.size; simp; omega
          intro v' w2 hown' hgrow _
          have H2 : Hid (w2.ownsRow w.heap.size 5 1 v' (out ++ [c]).length (Lib.byteCells (out ++ [c])) ∧ Below w.heap.size w w2) := by
            refine ⟨by rw [cells_snoc]; simpa using hown', ?_⟩
            exact (hP.out.2.1.alloc hP.out.2.1.size _).grown hgrow (by have := hP.out.2.1.size; simp; omega) (fun k hk => own_row_ge hP.out.1 k hk)
          clear hown' hgrow hP
          go_wp2_with fail
          go_roundw
          case rel => exact ⟨i + 1, out ++ [c], by go_num, by omega, H2.out.1, H2.out.2, HN.out, by simp; omega⟩
          case measure => simp [intOf]; omega
      · have hcv := conv_own hP.out.1
        have hol := hP.out.2.2.2
        go_wp2_with fail
        clear hcv
        refine (word_any out (by omega) _).mono ?_
        rintro e w1 ⟨rfl, b1⟩
        have HB1 := Lib.hid (hP.out.2.1.trans (b1.mono hP.out.2.1.size))
        have HBr := Lib.hid b1
        clear b1
        by_cases hw : wordP out = t
        · have hq : ((ba (wordP out)).toList == (ba t).toList) = true := by rw [hw]; exact beq_self_eq_true _
          have HX := Lib.hid (text_iff.2 hw)
          have hcv := conv_own (own_fr (F := Nope) hP.out.1 ((Fr.refl _ _).below HBr.out) (fun _ _ h => h.elim))
          clear hw
          go_wp2_with fail
          go_ret2
          exact ⟨by rw [HX.out]; rfl, HB1.out⟩
        · have hq : ((ba (wordP out)).toList == (ba t).toList) = false := by
            rw [beq_eq_false_iff_ne, ByteArray.toList_eq, ByteArray.toList_eq]; exact hw
          have HX := Lib.hid (tinv_end (by omega) hw hP.out.2.2.1)
          clear hw
          go_wp2_with fail
          go_ret2
          exact ⟨by rw [HX.out]; rfl, HB1.out⟩

end Go.Proofs.YtbikplckehbcnaaDoor
