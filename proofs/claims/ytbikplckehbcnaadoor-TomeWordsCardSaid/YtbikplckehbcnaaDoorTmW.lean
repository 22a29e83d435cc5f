/- Tome: the library's tables; a line's words in memory; the strings.Builder's writers. -/
import Derived.Test.YtbikplckehbcnaaDoorTmS
import Derived.Test.YtbikplckehbcnaaDoorBase
import Derived.Test.YtbikplckehbcnaaDoorChecked
import Derived.Outline
import Derived.RegionTactic
import Derived.Lib.LaidTab
import Derived.Lib.SmallJoins
import Derived.Lib.ItoaNum
import Derived.Lib.Space
import Derived.Lib.Builder
import Derived.Lib.AppendStr
import Derived.Shelf.Strings.Builder1
set_option linter.unusedVariables false
set_option linter.unusedSimpArgs false
namespace Go.Proofs.YtbikplckehbcnaaDoor
open Go Go.RowKit

/-- The library's tables. -/
structure Tabs (w : World) : Prop where
  sp : Lib.TabIs Tryd.prog w "strings.asciiSpace" .u8 Lib.asciiSpaceTab
  pw : Lib.TabIs Tryd.prog w "internal/strconv.uint64pow10" .u64 Lib.pow10Tab
  es : ∃ tp p, w.var? Tryd.prog "strconv.ErrSyntax" = some #[.iface tp p]
  er : ∃ tp p, w.var? Tryd.prog "strconv.ErrRange" = some #[.iface tp p]
  ml : ∃ m, w.cell? ⟨4, 0, none⟩ = some (.int .i64 m)

theorem glob_sp : Tryd.prog.globalNamed "strings.asciiSpace" = some 0 := by kernel_rfl
theorem glob_pw : Tryd.prog.globalNamed "internal/strconv.uint64pow10" = some 7 := by kernel_rfl
theorem glob_es : Tryd.prog.globalNamed "strconv.ErrSyntax" = some 2 := by kernel_rfl
theorem glob_er : Tryd.prog.globalNamed "strconv.ErrRange" = some 3 := by kernel_rfl

theorem var_lt {w : World} {n : String} {g : Nat} {cs : Array Value} (hg : Tryd.prog.globalNamed n = some g) (h : w.var? Tryd.prog n = some cs) : g < w.heap.size := by
  simp only [World.var?, hg, Option.bind_some] at h
  rcases Nat.lt_or_ge g w.heap.size with hl | hl
  · exact hl
  · rw [Array.getElem?_eq_none hl] at h
    cases h
theorem var_keep {w w' : World} {n : String} {g : Nat} {cs : Array Value} (hg : Tryd.prog.globalNamed n = some g) (hk : g < w.heap.size → w'.heap[g]? = w.heap[g]?) (h : w.var? Tryd.prog n = some cs) : w'.var? Tryd.prog n = some cs := by
  have hlt := var_lt hg h
  simp only [World.var?, hg, Option.bind_some] at h ⊢
  rw [hk hlt]
  exact h
theorem Tabs.keep {w w' : World} (h : Tabs w) (hk : ∀ g, g < 8 → g < w.heap.size → w'.heap[g]? = w.heap[g]?) : Tabs w' where
  sp := var_keep glob_sp (hk _ (by decide)) h.sp
  pw := var_keep glob_pw (hk _ (by decide)) h.pw
  es := by obtain ⟨a, b, e⟩ := h.es; exact ⟨a, b, var_keep glob_es (hk _ (by decide)) e⟩
  er := by obtain ⟨a, b, e⟩ := h.er; exact ⟨a, b, var_keep glob_er (hk _ (by decide)) e⟩
  ml := by
    obtain ⟨m, e⟩ := h.ml
    exact ⟨m, (World.cell?_of_block (hk _ (by decide) (by simpa using World.block_lt_of_cell? w _ e))).trans e⟩
theorem Tabs.size {w : World} (h : Tabs w) : 8 ≤ w.heap.size := var_lt glob_pw h.pw
theorem Tabs.fr {F : Nat → Prop} {w w' : World} (h : Tabs w) (hf : Fr F w w') (hF : ∀ b, b < 8 → ¬ F b) : Tabs w' := h.keep fun g hg hl => hf.block g hl (hF g hg)
theorem Tabs.below {w w' : World} (h : Tabs w) {B : Nat} (hB : 8 ≤ B) (hb : Below B w w') : Tabs w' := h.keep fun g hg _ => hb.block g (by omega)
theorem Tabs.one {p : Nat} {w w' : World} (h : Tabs w) (hp : 8 ≤ p) (hf : Fr (One p) w w') : Tabs w' := h.fr hf (fun b hb e => by have : b = p := e; omega)

/-- The words ws lie at A, in a row of strings. -/
def Wds (w : World) (A : Option Addr) (ws : List Bs) : Prop :=
  0 < ws.length → ∃ b off cs, A = some ⟨b, off, none⟩ ∧ Blk w b 9 cs ∧ ∀ (j : Nat) (x : Bs), ws[j]? = some x → cs[off + j]? = some (.string (ba x))
theorem Wds.nil (w : World) (A : Option Addr) : Wds w A [] := fun h => by simp at h
theorem Wds.fr {w w' : World} {F : Nat → Prop} {A : Option Addr} {ws : List Bs} (h : Wds w A ws) (hf : Fr F w w') (hF : ∀ b cs, Blk w b 9 cs → ¬ F b) : Wds w' A ws := fun hn => by
  obtain ⟨b, off, cs, e, hb, hc⟩ := h hn
  exact ⟨b, off, cs, e, hb.fr hf (hF b cs hb), hc⟩

/-- The reader in memory. -/
def RdAt (w : World) (p : Nat) (r : Rd) : Prop :=
  ∃ A, Blk w p 100 #[.slice A r.1.length r.1.length, .bool r.2] ∧ Wds w A r.1 ∧ ∀ x ∈ r.1, x.length ≤ 131072
theorem RdAt.fr {w w' : World} {F : Nat → Prop} {p : Nat} {r : Rd} (h : RdAt w p r) (hf : Fr F w w') (hp : ¬ F p) (hF : ∀ b cs, Blk w b 9 cs → ¬ F b) : RdAt w' p r := by
  obtain ⟨A, hb, hw, hl⟩ := h
  exact ⟨A, hb.fr hf hp, hw.fr hf hF, hl⟩
theorem RdAt.below {w w' : World} {p : Nat} {r : Rd} (h : RdAt w p r) (hb : Below w.heap.size w w') : RdAt w' p r :=
  h.fr ((Fr.refl Nope w).below hb) (fun h => h.elim) (fun _ _ _ h => h.elim)
theorem RdAt.alloc {w : World} {p : Nat} {r : Rd} (h : RdAt w p r) (o : Obj) : RdAt (w.alloc o) p r := h.below ((Below.refl _ _).alloc (Nat.le_refl _) _)
theorem RdAt.far {w : World} {p g : Nat} {r : Rd} {t : TypeId} {cs : Array Value} (h : RdAt w p r) (hg : Blk w g t cs) (h1 : t ≠ 100) (h2 : t ≠ 9) (i : Nat) (v : Value) : RdAt (w.setCell ⟨g, i, none⟩ v) p r := by
  refine h.fr ((Fr.refl (One g) w).one i v) ?_ (fun b cs' hb e => ?_)
  · obtain ⟨A, hb, _⟩ := h
    exact fun e => Blk.ne_ hg hb h1 (show g = p from (show p = g from e).symm)
  · exact Blk.ne_ hg hb h2 (show g = b from (show b = g from e).symm)
theorem RdAt.lt {w : World} {p : Nat} {r : Rd} (h : RdAt w p r) : p < w.heap.size := by obtain ⟨A, hb, _⟩ := h; exact hb.lt

/-! ### strings.Builder -/
theorem info_byte : (Tryd.prog.info? 5).map (fun i => (i.zero, i.size, i.bytes)) = some (some (.int .u8 0), 1, 1) := by kernel_rfl
theorem size_builder : (Tryd.prog.info? 126).map (·.size) = some 2 := by kernel_rfl
theorem lies_builder : liesAt Tryd.prog Tryd.prog.depth 126 (2 / Tryd.prog.cellsOf 126) 0 126 1 = true := by kernel_rfl

set_option maxHeartbeats 1000000 in
set_option maxRecDepth 100000 in
theorem check_used (b : Nat) (w : World) (h0 : w.cell? ⟨b, 0, none⟩ = some (.pointer (some ⟨b, 0, none⟩))) :
    Calls Tryd.prog 95 #[.pointer (some ⟨b, 0, none⟩)] w fun e w' => e = .returned (.tuple #[]) ∧ w' = w := by
  obtain ⟨j, hj, _⟩ := Option.map_eq_some_iff.1 size_builder
  go_enter Tryd.func95, Tryd.ntmps95
  go_wp2
  rw [Lib.run_neq_ptr_same w _ Tryd.underlying124 hj]
  go_wp2
  go_end0
  exact ⟨rfl, rfl⟩

set_option maxHeartbeats 1000000 in
set_option maxRecDepth 100000 in
theorem check_fresh (b : Nat) (w : World) (h0 : w.cell? ⟨b, 0, none⟩ = some (.pointer none)) (hsh : w.shape? b = some (126, 2)) (hfz : w.frozen? ⟨b, 0, none⟩ = false) :
    Calls Tryd.prog 95 #[.pointer (some ⟨b, 0, none⟩)] w fun e w' => e = .returned (.tuple #[]) ∧ w' = w.setCell ⟨b, 0, none⟩ (.pointer (some ⟨b, 0, none⟩)) := by
  obtain ⟨j, hj, hjs⟩ := Option.map_eq_some_iff.1 size_builder
  go_enter Tryd.func95, Tryd.ntmps95
  go_wp2
  rw [Lib.run_to_unsafe w ⟨b, 0, none⟩ Tryd.underlying124 Tryd.underlying179 hj (by rw [hjs]; decide) hsh (Nat.zero_lt_succ 1)]
  simp only [Result.andThen]
  rw [Oper.upon_value]
  go_wp2
  rw [run_callFunc_extern Tryd.func129 (by kernel_rfl) (by kernel_rfl) (by kernel_rfl) (e := Extern.AbiNoEscape.same) (by kernel_rfl)]
  rw [Lib.run_noEscape]
  simp only [Result.andThen]
  rw [Oper.upon_value]
  go_wp2
  rw [Lib.run_from_unsafe w ⟨b, 0, none⟩ Tryd.underlying179 Tryd.underlying124 hj hsh lies_builder]
  simp only [Result.andThen]
  rw [Oper.upon_value]
  go_wp2
  go_end0
  exact ⟨rfl, rfl⟩

/-- A builder of the call's own in block b, its bytes in a row from block base on. -/
def Bld (b base : Nat) (bs : List Value) (w : World) : Prop :=
  ∃ p v, (p = .pointer none ∨ p = .pointer (some ⟨b, 0, none⟩)) ∧ Blk w b 126 #[p, v] ∧ w.ownsRow base 5 1 v bs.length bs
/-- What a builder's writers turn. -/
def BldF (b base : Nat) : Nat → Prop := fun k => k = b ∨ base ≤ k
theorem Bld.new (w : World) (base : Nat) : Bld w.heap.size base [] (w.alloc (.cells #[.pointer none, .slice none 0 0] 126)) :=
  ⟨_, _, .inl rfl, Blk.new _ _ _, World.ownsRow_nil _ _ _ _⟩
theorem bld_ne {w : World} {b base n : Nat} {p v : Value} {xs : List Value} (hb : Blk w b 126 #[p, v]) (h : w.ownsRow base 5 1 v n xs) : v.ownBlock ≠ some b := own_blk_ne h hb (by decide)
theorem Bld.fr {w w' : World} {b base : Nat} {bs : List Value} {F : Nat → Prop} (h : Bld b base bs w) (hf : Fr F w w') (hb : ¬ F b) (hF : ∀ k, base ≤ k → ¬ F k) : Bld b base bs w' := by
  obtain ⟨p, v, hp, hk, ho⟩ := h
  exact ⟨p, v, hp, hk.fr hf hb, own_fr ho hf (fun g hg => hF g (by
    rcases ho.2 with ⟨rfl, _⟩ | ⟨g', cap, cur, rfl, hg', _⟩
    · simp [Value.ownBlock] at hg
    · have : g' = g := by simpa [Value.ownBlock] using hg
      omega))⟩
theorem Bld.is {w : World} {b base : Nat} {bs : List Value} (h : Bld b base bs w) (hb : b ≤ base) : Lib.IsBuilder 126 5 b b bs w := by
  obtain ⟨p, v, hp, hk, ho⟩ := h
  have ho' : w.ownsRow b 5 1 v bs.length bs := own_base0 ho (fun g hg => by
    rcases ho.2 with ⟨rfl, _⟩ | ⟨g', cap, cur, rfl, hg', _⟩
    · simp [Value.ownBlock] at hg
    · have : g' = g := by simpa [Value.ownBlock] using hg
      omega)
  rcases hp with rfl | rfl
  · exact .inl ⟨Nat.le_refl _, v, hk, ho', bld_ne hk ho⟩
  · exact .inr ⟨Nat.le_refl _, v, hk, ho', bld_ne hk ho⟩

theorem check_any (b base : Nat) (bs : List Value) (w : World) (h : Bld b base bs w) :
    Calls Tryd.prog 95 #[.pointer (some ⟨b, 0, none⟩)] w fun e w' => e = .returned (.tuple #[]) ∧ (∃ v, Blk w' b 126 #[.pointer (some ⟨b, 0, none⟩), v] ∧ w'.ownsRow base 5 1 v bs.length bs) ∧ Fr (One b) w w' := by
  obtain ⟨p, v, hp, hk, ho⟩ := h
  have h0 := hk.cell 0
  have hsh : w.shape? b = some (126, 2) := by unfold Blk at hk; simp [World.shape?, hk]
  rcases hp with rfl | rfl
  · refine (check_fresh b w h0 hsh (hk.frozen 0)).mono ?_
    rintro e w' ⟨rfl, rfl⟩
    exact ⟨rfl, ⟨v, hk.set_ 0 _, own_fr ho ((Fr.refl (One b) w).one 0 _) (fun g hg e => bld_ne hk ho (by rw [hg, show g = b from e]))⟩, (Fr.refl _ _).one 0 _⟩
  · refine (check_used b w h0).mono ?_
    rintro e w' ⟨rfl, rfl⟩
    exact ⟨rfl, ⟨v, hk, ho⟩, Fr.refl _ _⟩

theorem own_row_ge {w : World} {base n : Nat} {e : TypeId} {size : Nat} {v : Value} {xs : List Value} (h : w.ownsRow base e size v n xs) : ∀ k, v.ownBlock = some k → base ≤ k := fun g hg => by
  rcases h.2 with ⟨rfl, _⟩ | ⟨g', cap, cur, rfl, hg', _⟩
  · simp [Value.ownBlock] at hg
  · have : g' = g := by simpa [Value.ownBlock] using hg
    omega

set_option maxHeartbeats 2000000 in
set_option maxRecDepth 100000 in
theorem wbyte_any (b base : Nat) (bs : List Value) (c : Int) (w : World) (h : Bld b base bs w) (hlen : bs.length + 1 ≤ 140737488355328) (hBw : base ≤ w.heap.size) :
    Calls Tryd.prog 66 #[.pointer (some ⟨b, 0, none⟩), .int .u8 c] w fun e w' => e = .returned .nilIface ∧ Bld b base (bs ++ [.int .u8 c]) w' ∧ Fr (BldF b base) w w' := by
  obtain ⟨i0, hi, hz0, hz1, hz2⟩ := info_parts info_byte
  go_enter Tryd.func66, Tryd.ntmps66
  go_wp2_with (go_at_call 95; refine (check_any b base bs _ h).mono ?_)
  rintro e w1 ⟨rfl, ⟨v, hbk, hown⟩, hf1⟩
  have c0 := hbk.cell 0
  have c1 := hbk.cell 1
  simp only [List.getElem?_toArray] at c0 c1
  have hs1 : base ≤ w1.heap.size := Nat.le_trans hBw hf1.size
  have hne := bld_ne hbk hown
  go_wp2_with (at_builtin; refine wpList_append_own _ rfl _ _ 92 rfl base 5 i0 (.int .u8 0) 1 1 Tryd.underlying92 hi hz0 hz1 hz2 rfl (by decide) _ _ _ rfl (hown.alloc _) ⟨w1.heap.size, 0, none⟩ 1 1 [.int .u8 c] rfl rfl ?c1 ?c2 ?c3 ?c4 ?c5 ?_)
  case c1 =>
    intro j u hj
    match j, hj with
    | 0, hj => simp at hj; subst hj; simp [Addr.add]
  case c2 => intro u hu; simp at hu; subst hu; rfl
  case c3 => unfold maxLen; omega
  case c4 => omega
  case c5 => simp; omega
  intro v' w2 hown' hgrow _
  have hb2 : Blk w2 b 126 #[.pointer (some ⟨b, 0, none⟩), v] := (hbk.alloc _).grown hgrow (fun e => hne e.symm)
  have d0 := hb2.cell 0
  have d1 := hb2.cell 1
  simp only [List.getElem?_toArray] at d0 d1
  have f1 := hb2.frozen 1
  obtain ⟨g, cap, rfl⟩ : ∃ g cap, v' = .slice (some ⟨g, 0, none⟩) (bs.length + 1) cap := by
    rcases hown'.2 with ⟨_, h0⟩ | ⟨g, cap, cur, hv, _⟩
    · omega
    · exact ⟨g, cap, hv⟩
  go_wp2
  go_ret
  have hge := own_row_ge hown
  refine ⟨rfl, ⟨_, _, .inr rfl, hb2.set_ 1 _, ?_⟩, ?_⟩
  · have hown2 : w2.ownsRow base 5 1 (.slice (some ⟨g, 0, none⟩) (bs.length + 1) cap) (bs ++ [Value.int .u8 c]).length (bs ++ [Value.int .u8 c]) := by simpa using hown'
    exact own_fr hown2 ((Fr.refl (One b) _).one 1 _) (fun g' hg e => own_blk_ne hown2 hb2 (by decide) (by rw [hg, show g' = b from e]))
  · exact (((((hf1.mono (fun k hk => .inl hk) : Fr (BldF b base) w w1)).alloc _).grown hgrow (fun k hk => .inl (.inr (hge k hk)))).set (g := b) (.inl (.inl rfl)) 1 _)

set_option maxHeartbeats 2000000 in
set_option maxRecDepth 100000 in
theorem wstr_any (b base : Nat) (bs : List Value) (s : ByteArray) (w : World) (h : Bld b base bs w) (hlen : bs.length + s.size ≤ 140737488355328) (hBw : base ≤ w.heap.size) :
    Calls Tryd.prog 67 #[.pointer (some ⟨b, 0, none⟩), .string s] w fun e w' => e = .returned (.tuple #[.int .i64 s.size, .nilIface]) ∧ Bld b base (bs ++ Lib.strCells s) w' ∧ Fr (BldF b base) w w' := by
  obtain ⟨i0, hi, hz0, hz1, hz2⟩ := info_parts info_byte
  go_enter Tryd.func67, Tryd.ntmps67
  go_wp2_with (go_at_call 95; refine (check_any b base bs _ h).mono ?_)
  rintro e w1 ⟨rfl, ⟨v, hbk, hown⟩, hf1⟩
  have c0 := hbk.cell 0
  have c1 := hbk.cell 1
  simp only [List.getElem?_toArray] at c0 c1
  have hs1 : base ≤ w1.heap.size := Nat.le_trans hBw hf1.size
  have hne := bld_ne hbk hown
  go_wp2_with (at_builtin; refine Lib.wpList_append_own_string _ rfl _ _ 92 9 rfl base 5 i0 Tryd.underlying92 Tryd.underlying9 hi hz0 hz1 hz2 _ _ _ rfl hown s rfl ?c3 ?c4 ?c5 ?_)
  case c3 => unfold maxLen; omega
  case c4 => omega
  case c5 => omega
  intro v' w2 hown' hgrow _
  have hb2 : Blk w2 b 126 #[.pointer (some ⟨b, 0, none⟩), v] := hbk.grown hgrow (fun e => hne e.symm)
  have d0 := hb2.cell 0
  have d1 := hb2.cell 1
  simp only [List.getElem?_toArray] at d0 d1
  have f1 := hb2.frozen 1
  obtain ⟨ao, n', cap, rfl⟩ : ∃ ao n' cap, v' = .slice ao n' cap := by
    rcases hown'.2 with ⟨hv, _⟩ | ⟨g, cap, cur, hv, _⟩
    · exact ⟨_, _, _, hv⟩
    · exact ⟨_, _, _, hv⟩
  go_wp2
  go_ret2
  have hge := own_row_ge hown
  refine ⟨rfl, ⟨_, _, .inr rfl, hb2.set_ 1 _, ?_⟩, ?_⟩
  · have hown2 : w2.ownsRow base 5 1 (.slice ao n' cap) (bs ++ Lib.strCells s).length (bs ++ Lib.strCells s) := by simpa [Lib.strCells_length] using hown'
    exact own_fr hown2 ((Fr.refl (One b) _).one 1 _) (fun g' hg e => own_blk_ne hown2 hb2 (by decide) (by rw [hg, show g' = b from e]))
  · exact (((hf1.mono (fun k hk => .inl hk) : Fr (BldF b base) w w1)).grown hgrow (fun k hk => .inl (.inr (hge k hk)))).set (g := b) (.inl (.inl rfl)) 1 _

end Go.Proofs.YtbikplckehbcnaaDoor
