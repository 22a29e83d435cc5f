/- Pages in memory: slots; slab.Good. -/
import Derived.Test.YtbikplckehbcnaaDoorBase
import Derived.Test.YtbikplckehbcnaaDoorChecked
import Derived.Outline
import Derived.RegionTactic
set_option linter.unusedVariables false
set_option linter.unusedSimpArgs false
namespace Go.Proofs.YtbikplckehbcnaaDoor
open Go Go.RowKit

/-- A slot: whether it is used, and its data. -/
abbrev Slt := Bool × ByteArray
/-- The slots xs lie at A, in a block that F does not name. -/
def Slots (w : World) (F : Nat → Prop) (A : Option Addr) (xs : List Slt) : Prop :=
  0 < xs.length → ∃ b off, A = some ⟨b, off, none⟩ ∧ b < w.heap.size ∧ ¬ F b ∧ ∀ (j : Nat) (x : Slt), xs[j]? = some x → w.cell? ⟨b, off + j * 2, none⟩ = some (.bool x.1) ∧ w.cell? ⟨b, off + j * 2 + 1, none⟩ = some (.string x.2) ∧ x.2.size ≤ maxLen

theorem Slots.fr {w w' : World} {F : Nat → Prop} {A : Option Addr} {xs : List Slt} (h : Slots w F A xs) (hf : Fr F w w') : Slots w' F A xs := fun hn => by
  obtain ⟨b, off, e, hb, hF, hc⟩ := h hn
  refine ⟨b, off, e, Nat.lt_of_lt_of_le hb hf.size, hF, fun j x hx => ?_⟩
  obtain ⟨h1, h2, h3⟩ := hc j x hx
  exact ⟨(hf.cell (p := ⟨b, off + j * 2, none⟩) hb hF).trans h1, (hf.cell (p := ⟨b, off + j * 2 + 1, none⟩) hb hF).trans h2, h3⟩
theorem Slots.mono {w : World} {F F' : Nat → Prop} {A : Option Addr} {xs : List Slt} (h : Slots w F A xs) (hF : ∀ k, k < w.heap.size → F' k → F k) : Slots w F' A xs := fun hn => by
  obtain ⟨b, off, e, hb, hn', hc⟩ := h hn
  exact ⟨b, off, e, hb, fun hf => hn' (hF _ hb hf), hc⟩
theorem Slots.nil (w : World) (F : Nat → Prop) (A : Option Addr) : Slots w F A [] := fun h => by simp at h

def odd (x : Slt) : Bool := (!x.1 && !x.2.toList.isEmpty) || decide (200 < (x.2.size : Int))
def sizeP (xs : List Slt) : Nat := (xs.map fun x => 1 + x.2.size).sum
def lastUsed (xs : List Slt) : Bool := match xs.getLast? with | none => true | some x => x.1
def goodP (l : Int) (xs : List Slt) : Bool := decide (0 ≤ l) && decide (l ≤ 1099511627776) && decide (xs.length ≤ 32) && !xs.any odd && lastUsed xs && decide (9 + sizeP xs ≤ 240)

theorem sizeP_step {xs : List Slt} {k : Nat} {x : Slt} (h : xs[k]? = some x) : sizeP (xs.take (k + 1)) = sizeP (xs.take k) + (1 + x.2.size) := by
  rw [List.take_add_one, h]
  simp [sizeP]
theorem empty_size (t : ByteArray) : t.toList.isEmpty = (t.size == 0) := by
  rw [Bool.eq_iff_iff, List.isEmpty_iff, beq_iff_eq, ByteArray.toList_eq, ← List.length_eq_zero_iff]
  exact Iff.of_eq rfl

set_option maxRecDepth 100000 in
theorem isOdd_any (w : World) (u : Bool) (t : ByteArray) :
    Calls Tryd.prog 111 #[.agg #[.bool u, .string t]] w fun e w' => e = .returned (.bool (odd (u, t))) ∧ Below w.heap.size w w' := by
  go_enter Tryd.func111, Tryd.ntmps111
  cases u <;> cases ht : t.toList.isEmpty
  all_goals
    go_wp2_with fail
    go_ret
    refine ⟨by simp [odd, ht], (Below.refl _ _).alloc (Nat.le_refl _) _⟩

set_option maxRecDepth 100000 in
theorem indexOdd_any (w : World) (F : Nat → Prop) (A : Option Addr) (c : Nat) (xs : List Slt) (hx : Slots w F A xs) (hl : xs.length ≤ 1099511627776) :
    Calls Tryd.prog 137 #[.slice A xs.length c, .func (.func 111) #[] #[]] w fun e w' => ∃ k : Int, e = .returned (.int .i64 k) ∧ decide (0 ≤ k) = xs.any odd ∧ Below w.heap.size w w' := by
  have HX := Lib.hid hx
  obtain ⟨b, off, hA⟩ : ∃ b off, xs.length = 0 ∨ A = some ⟨b, off, none⟩ := by
    rcases Nat.eq_zero_or_pos xs.length with hz | hz
    · exact ⟨0, 0, .inl hz⟩
    · obtain ⟨b, off, e, _⟩ := hx hz
      exact ⟨b, off, .inr e⟩
  clear hx
  go_enter Tryd.func137, Tryd.ntmps137
  go_wp2_with fail
  go_loopw [8] (fun i wr => ∃ k : Nat, k ≤ xs.length ∧ i = .int .i64 k ∧ Hid ((xs.take k).any odd = false) ∧ Below w.heap.size w wr) (fun i _ => xs.length - (intOf i).toNat)
  case atStart => exact ⟨0, by omega, rfl, by rw [List.take_zero]; rfl, Below.refl _ _⟩
  case round =>
    obtain ⟨k, hk, rfl, hn, hB⟩ := hrel
    by_cases hlt : k < xs.length
    · obtain ⟨x, hxk⟩ : ∃ x, xs[k]? = some x := ⟨_, List.getElem?_eq_getElem hlt⟩
      rcases hA with hz | rfl
      · omega
      obtain ⟨b', off', e', hbw, _, hc⟩ := HX.out (by omega)
      obtain ⟨rfl, rfl⟩ : b = b' ∧ off = off' := by injection e' with e1; injection e1 with e1 e2; exact ⟨e1, e2⟩
      obtain ⟨hc1, hc2, _⟩ := hc k x hxk
      have hd1 : wr.cell? ⟨b, off + k * 2, none⟩ = some (.bool x.1) := (hB.cell (p := ⟨b, off + k * 2, none⟩) hbw).trans hc1
      have hd2 : wr.cell? ⟨b, off + k * 2 + 1, none⟩ = some (.string x.2) := (hB.cell (p := ⟨b, off + k * 2 + 1, none⟩) hbw).trans hc2
      have HN : Hid ((xs.take (k + 1)).any odd = odd x) := by
        unfold Hid
        rw [List.take_add_one, hxk, List.any_append, hn.out]
        simp
      have HA : Hid (odd x = true → xs.any odd = true) := fun h => List.any_eq_true.2 ⟨x, List.mem_of_getElem? hxk, h⟩
      clear hc1 hc2 hc e' hxk hn
      obtain ⟨u, t⟩ := x
      go_wp2_with fail
      refine (isOdd_any _ u t).mono ?_
      rintro e w1 ⟨rfl, b1⟩
      have hB1 : Below w.heap.size w w1 := hB.trans (b1.mono hB.size)
      clear hd1 hd2 hB b1
      cases ho : odd (u, t) with
      | true =>
        rw [ho] at HN HA
        go_wp2_with fail
        go_ret
        have h2 : xs.any odd = true := by simpa using HA.out
        exact ⟨_, rfl, by rw [h2]; simp, hB1⟩
      | false =>
        rw [ho] at HN HA
        go_wp2_with fail
        go_roundw
        case rel => exact ⟨k + 1, by omega, by go_num, HN, hB1⟩
        case measure => simp [intOf]; omega
    · obtain rfl : k = xs.length := by omega
      go_wp2_with fail
      go_ret
      exact ⟨_, rfl, by have := hn.out; rw [List.take_length] at this; rw [this]; simp, hB⟩

set_option maxRecDepth 100000 in
theorem anyOdd_any (w : World) (F : Nat → Prop) (A : Option Addr) (c : Nat) (xs : List Slt) (hx : Slots w F A xs) (hl : xs.length ≤ 1099511627776) :
    Calls Tryd.prog 110 #[.slice A xs.length c, .func (.func 111) #[] #[]] w fun e w' => e = .returned (.bool (xs.any odd)) ∧ Below w.heap.size w w' := by
  have HX := Lib.hid hx
  clear hx
  go_enter Tryd.func110, Tryd.ntmps110
  go_wp2_with fail
  refine (indexOdd_any _ F A c xs HX.out hl).mono ?_
  rintro e w1 ⟨k, rfl, hk, b1⟩
  have HK := Lib.hid hk
  clear hk
  go_wp2_with fail
  go_ret
  refine ⟨?_, b1⟩
  show Ending.returned (Value.bool (decide (0 ≤ k))) = _
  rw [HK.out]

set_option maxRecDepth 100000 in
theorem size_any (w : World) (F : Nat → Prop) (A : Option Addr) (c : Nat) (xs : List Slt) (hx : Slots w F A xs) (hl : xs.length ≤ 32) (hd : ∀ x ∈ xs, x.2.size ≤ 200) :
    Calls Tryd.prog 112 #[.slice A xs.length c] w fun e w' => e = .returned (.int .i64 ((9 + sizeP xs : Nat) : Int)) ∧ Below w.heap.size w w' := by
  have HX := Lib.hid hx
  have HD := Lib.hid hd
  obtain ⟨b, off, hA⟩ : ∃ b off, xs.length = 0 ∨ A = some ⟨b, off, none⟩ := by
    rcases Nat.eq_zero_or_pos xs.length with hz | hz
    · exact ⟨0, 0, .inl hz⟩
    · obtain ⟨b, off, e, _⟩ := hx hz
      exact ⟨b, off, .inr e⟩
  clear hx hd
  go_enter Tryd.func112, Tryd.ntmps112
  go_wp2_with fail
  go_loopw [3, 8] (fun n i wr => ∃ k s : Nat, k ≤ xs.length ∧ n = .int .i64 s ∧ i = .int .i64 k ∧ Hid (s = 9 + sizeP (xs.take k)) ∧ s ≤ 9 + 201 * k ∧ Below w.heap.size w wr) (fun _ i _ => xs.length - (intOf i).toNat)
  case atStart => exact ⟨0, 9, by omega, rfl, rfl, by rw [List.take_zero]; rfl, by omega, Below.refl _ _⟩
  case round =>
    obtain ⟨k, s, hk, rfl, rfl, hn, hs, hB⟩ := hrel
    by_cases hlt : k < xs.length
    · obtain ⟨x, hxk⟩ : ∃ x, xs[k]? = some x := ⟨_, List.getElem?_eq_getElem hlt⟩
      rcases hA with hz | rfl
      · omega
      obtain ⟨b', off', e', hbw, _, hc⟩ := HX.out (by omega)
      obtain ⟨rfl, rfl⟩ : b = b' ∧ off = off' := by injection e' with e1; injection e1 with e1 e2; exact ⟨e1, e2⟩
      obtain ⟨hc1, hc2, _⟩ := hc k x hxk
      have hd1 : wr.cell? ⟨b, off + k * 2, none⟩ = some (.bool x.1) := (hB.cell (p := ⟨b, off + k * 2, none⟩) hbw).trans hc1
      have hd2 : wr.cell? ⟨b, off + k * 2 + 1, none⟩ = some (.string x.2) := (hB.cell (p := ⟨b, off + k * 2 + 1, none⟩) hbw).trans hc2
      have hdl : x.2.size ≤ 200 := HD.out x (List.mem_of_getElem? hxk)
      have HN : Hid (s + (1 + x.2.size) = 9 + sizeP (xs.take (k + 1))) := by
        unfold Hid
        have := hn.out
        rw [sizeP_step hxk]
        omega
      clear hc1 hc2 hc e' hxk hn
      obtain ⟨u, t⟩ := x
      have hdl : t.size ≤ 200 := hdl
      go_wp2_with fail
      go_roundw
      case rel => exact ⟨k + 1, s + (1 + t.size), by omega, by go_num, by go_num, HN, by omega, hB.alloc hB.size _⟩
      case measure => simp [intOf]; omega
    · obtain rfl : k = xs.length := by omega
      go_wp2_with fail
      go_ret
      have hn' := hn.out
      rw [List.take_length] at hn'
      subst hn'
      exact ⟨rfl, hB⟩

/-- A page's value. -/
def pgV (l : Int) (A : Option Addr) (n c : Nat) : Value := .agg #[.int .i64 l, .slice A n c]

set_option maxRecDepth 100000 in
set_option maxHeartbeats 2000000 in
theorem good_any (w : World) (F : Nat → Prop) (l : Int) (A : Option Addr) (c : Nat) (xs : List Slt) (hx : Slots w F A xs) (hl : xs.length ≤ 4611686018427387904) :
    Calls Tryd.prog 78 #[.agg #[.int .i64 l, .slice A xs.length c]] w fun e w' => e = .returned (.bool (goodP l xs)) ∧ Below w.heap.size w w' := by
  have HX := Lib.hid hx
  have hnew := Blk.new w 25 #[.int .i64 l, .slice A xs.length c]
  have hg0 := hnew.cell 0
  have hg1 := hnew.cell 1
  simp only [List.getElem?_toArray] at hg0 hg1
  have HNEW := Lib.hid hnew
  clear hx hnew
  have HB : Hid (Below w.heap.size w (w.alloc (.cells #[.int .i64 l, .slice A xs.length c] 25))) := (Below.refl _ _).alloc (Nat.le_refl _) _
  go_enter Tryd.func78, Tryd.ntmps78
  by_cases h1 : l < 0
  · go_wp2_with fail
    go_ret
    exact ⟨by unfold goodP; rw [decide_eq_false (by omega)]; rfl, HB.out⟩
  · by_cases h2 : 1099511627776 < l
    · go_wp2_with fail
      go_ret
      exact ⟨by unfold goodP; rw [decide_eq_false (p := l ≤ 1099511627776) (by omega)]; simp, HB.out⟩
    · by_cases h3 : 32 < xs.length
      · go_wp2_with fail
        go_ret
        exact ⟨by unfold goodP; rw [decide_eq_false (p := xs.length ≤ 32) (by omega)]; simp, HB.out⟩
      · go_wp2_with fail
        refine (anyOdd_any _ F A c xs (HX.out.fr ((Fr.refl F w).alloc _)) (by omega)).mono ?_
        rintro e w1 ⟨rfl, b1⟩
        have b1' : Below w.heap.size w w1 := HB.out.trans (b1.mono HB.out.size)
        have HNEW1 := Lib.hid (HNEW.out.below b1 HNEW.out.lt)
        clear hg0 hg1
        have hg0 := HNEW1.out.cell 0
        have hg1 := HNEW1.out.cell 1
        simp only [List.getElem?_toArray] at hg0 hg1
        have HX1 := Lib.hid ((HX.out.fr ((Fr.refl F w).alloc _)).fr ((Fr.refl F _).below b1))
        clear HX HNEW b1
        cases ho : xs.any odd with
        | true =>
          have hgo : Hid (goodP l xs = false) := by unfold Hid goodP; rw [ho]; simp
          go_wp2_with fail
          go_ret
          exact ⟨(congrArg (fun b => Ending.returned (Value.bool b)) hgo.out).symm, b1'⟩
        | false =>
          have hdd : Hid (∀ x ∈ xs, x.2.size ≤ 200) := by
            intro x hx
            have := List.any_eq_false.1 ho x hx
            simp [odd] at this
            omega
          have hgo : Hid (goodP l xs = (lastUsed xs && decide (9 + sizeP xs ≤ 240))) := by
            unfold Hid goodP
            rw [ho, decide_eq_true (p := 0 ≤ l) (by omega), decide_eq_true (p := l ≤ 1099511627776) (by omega), decide_eq_true (p := xs.length ≤ 32) (by omega)]
            simp
          clear ho
          rcases Nat.eq_zero_or_pos xs.length with hz | hz
          · obtain rfl : xs = [] := List.length_eq_zero_iff.1 hz
            have hs9 := fun W => size_any W F A c [] (Slots.nil W F A) (by simp) (by simp)
            simp only [List.length_nil] at hs9
            have HS9 := Lib.hid hs9
            clear hs9
            go_wp2_with fail
            refine (HS9.out _).mono ?_
            rintro e w2 ⟨rfl, b2⟩
            go_wp2_with fail
            go_ret
            exact ⟨by rw [hgo.out]; rfl, b1'.trans (b2.mono b1'.size)⟩
          · obtain ⟨x, hx⟩ : ∃ x, xs[xs.length - 1]? = some x := ⟨_, List.getElem?_eq_getElem (by omega)⟩
            obtain ⟨b, off, hA, hbw, _, hc⟩ := HX1.out hz
            obtain ⟨hc1, _, _⟩ := hc _ x hx
            subst hA
            have HLU : Hid (lastUsed xs = x.1) := by
              unfold Hid lastUsed
              rw [List.getLast?_eq_getElem?, hx]
            obtain ⟨u, t⟩ := x
            have hsz := fun W hW => size_any W F (some ⟨b, off, none⟩) c xs hW (by omega) hdd.out
            have HSZ := Lib.hid hsz
            clear hc hx hsz
            have he0 : ((xs.length : Int) == 0) = false := by rw [beq_eq_false_iff_ne]; omega
            cases u with
            | false =>
              go_wp2_with fail
              go_ret
              exact ⟨by rw [hgo.out, HLU.out]; rfl, b1'⟩
            | true =>
              go_wp2_with fail
              refine (HSZ.out _ HX1.out).mono ?_
              rintro e w2 ⟨rfl, b2⟩
              go_wp2_with fail
              go_ret
              refine ⟨?_, b1'.trans (b2.mono b1'.size)⟩
              rw [hgo.out, HLU.out]
              show Ending.returned (Value.bool (decide ((9 : Int) + ((sizeP xs : Nat) : Int) ≤ 240))) = _
              rw [Bool.true_and]
              congr 2
              rw [decide_eq_decide]
              omega

end Go.Proofs.YtbikplckehbcnaaDoor
