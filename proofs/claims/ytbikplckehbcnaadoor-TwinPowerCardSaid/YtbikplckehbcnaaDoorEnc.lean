/- slab.Encode: a page's bytes. -/
import Derived.Test.YtbikplckehbcnaaDoorPut
import Derived.Deep.DeepCutAuto
import Derived.Deep.CutBlock
import Derived.Deep.RegionHeld3
import Derived.Deep.RegionLaw
import Derived.Lib.AppendStr
import Derived.Laws.AppendOwn
set_option linter.unusedVariables false
set_option linter.unusedSimpArgs false
namespace Go.Proofs.YtbikplckehbcnaaDoor
open Go Go.RowKit

/-- A text's bytes as numbers. -/
def numsT (t : ByteArray) : List Int := t.data.toList.map fun b => (b.toNat : Int)
theorem numsT_length (t : ByteArray) : (numsT t).length = t.size := by
  rw [numsT, List.length_map, Array.length_toList]
  rfl
theorem numsT_str {l : List Int} (h : ∀ b ∈ l, 0 ≤ b ∧ b < 256) : numsT (strOfNums l) = l := by
  rw [numsT, strOfNums_data, List.map_map]
  refine (List.map_congr_left (fun b hb => ?_)).trans (List.map_id l)
  obtain ⟨h0, h1⟩ := h b hb
  simp only [Function.comp_apply, id_eq]
  rw [UInt8.toNat_ofNat']
  omega
theorem putB_range (n : Int) (k : Nat) : ∀ b ∈ putB n k, 0 ≤ b ∧ b < 256 := by
  intro b hb
  obtain ⟨j, _, rfl⟩ := List.mem_map.1 hb
  unfold byteAt
  omega
theorem numsT_range (t : ByteArray) : ∀ b ∈ numsT t, 0 ≤ b ∧ b < 256 := by
  intro b hb
  obtain ⟨j, _, rfl⟩ := List.mem_map.1 hb
  have := j.toNat_lt
  omega
theorem strCells_nums (t : ByteArray) : Lib.strCells t = (numsT t).map fun x => Value.int .u8 x := by simp [Lib.strCells, numsT]

/-- A row of 240 cells of which the first are l. -/
def encC (l : List Int) : Array Value := ((l.map fun x => Value.int .u8 x) ++ List.replicate (240 - l.length) (Value.int .u8 0)).toArray
theorem encC_size (l : List Int) (h : l.length ≤ 240) : (encC l).size = 240 := by
  rw [encC, List.size_toArray, List.length_append, List.length_map, List.length_replicate]
  omega
theorem encC_app (l m : List Int) (h : l.length + m.length ≤ 240) : ((encC l).toList.take l.length ++ (m.map fun x => Value.int .u8 x) ++ (encC l).toList.drop (l.length + m.length)).toArray = encC (l ++ m) := by
  have e1 : (encC l).toList.take l.length = l.map fun x => Value.int .u8 x := by
    rw [encC]
    simp only []
    rw [List.take_append_of_le_length (by simp), List.take_of_length_le (by simp)]
  have e2 : (encC l).toList.drop (l.length + m.length) = List.replicate (240 - (l ++ m).length) (Value.int .u8 0) := by
    rw [encC]
    simp only []
    rw [List.drop_append, List.drop_of_length_le (by simp), List.nil_append, List.length_map, Nat.add_sub_cancel_left, List.drop_replicate, List.length_append]
    congr 1
    omega
  rw [e1, e2, encC]
  simp

theorem byte_info : ((Tryd.prog.info? 5).map fun i => (i.zero, i.size, i.bytes)) = some (some (.int .u8 0), 1, 1) := by kernel_rfl

theorem cell_new2 (w : World) (o : Obj) (t : TypeId) (v : Value) : ((w.alloc o).alloc (.cells #[v] t)).cell? ⟨w.heap.size + 1, 0, none⟩ = some v := by
  simp
section
variable {w w' : World} {g : Nat} {l : List Int}
theorem Blk.setRow (h : Blk w g 5 (encC l)) (c : Array Value) : Blk (w.setRow g c) g 5 c := setRow_heap w g (encC l) c 5 _ h
theorem Fr.setRow {F : Nat → Prop} {a b : World} (h : Fr F a b) (hg : F g ∨ a.heap.size ≤ g) (c : Array Value) : Fr F a (b.setRow g c) :=
  ⟨h.os, h.tape, h.output, by simpa using h.size, fun k hk hn => (setRow_other b g k c (fun e => by
    rcases hg with hg | hg
    · exact hn (e ▸ hg)
    · omega)).trans (h.block k hk hn)⟩

/-- append(out, text...), in a list of operations. -/
theorem wpList_enc_str {ops : Array Oper} {rest : List Oper} {o : Oper} {a : Act} {Q : Exit → Act → World → Prop} (hgd : o.guard = none) (s x : Operand)
    (ho : o.op = .call { callee := .builtin .append, args := #[s, x], argTypes := #[92, 9] })
    (n : Nat) (hn : l.length = n) (hs : a.eval s = .slice (some ⟨g, 0, none⟩) n 240) (hb : Blk w g 5 (encC l)) (t : ByteArray) (hx : a.eval x = .string t) (hroom : n + t.size ≤ 240)
    (h : ∀ w', Blk w' g 5 (encC (l ++ numsT t)) → Fr (One g) w w' → wpList Tryd.prog ops Q rest (a.put o.dst (.slice (some ⟨g, 0, none⟩) (n + t.size) 240)) w') : wpList Tryd.prog ops Q (o :: rest) a w := by
  subst hn
  obtain ⟨i0, hi, hz⟩ := Option.map_eq_some_iff.1 byte_info
  simp only [Prod.mk.injEq] at hz
  have hr := Lib.run_append_room_string (P := Tryd.prog) w 92 9 o.type 5 i0 Tryd.underlying92 Tryd.underlying9 hi hz.2.1 g l.length 240 (encC l) hb t hroom (by rw [encC_size _ (by omega)]; exact hroom)
  rw [strCells_nums, ← numsT_length, encC_app l (numsT t) (by rw [numsT_length]; exact hroom)] at hr
  refine wpList_plain hgd fun K hK => ?_
  unfold Oper.wp execOp
  simp only [ho, resolve, invoke, builtin, Sem.run_bind, Sem.run_pure, Result.andThen_ok, List.map_toArray, List.map_cons, List.map_nil, hs, hx, hr]
  rw [numsT_length]
  exact hK _ _ (h _ (Blk.setRow hb _) ((Fr.refl (One g) w).setRow (.inl (One.self g)) _))

/-- append(out, b), in a list of operations. -/
theorem wpList_enc_byte {ops : Array Oper} {rest : List Oper} {o : Oper} {a : Act} {Q : Exit → Act → World → Prop} (hgd : o.guard = none) (s x : Operand)
    (ho : o.op = .call { callee := .builtin .append, args := #[s, x], argTypes := #[92, 92] })
    (n : Nat) (hn : l.length = n) (hs : a.eval s = .slice (some ⟨g, 0, none⟩) n 240) (hb : Blk w g 5 (encC l)) (ad : Addr) (b : Int) (hx : a.eval x = .slice (some ad) 1 1) (hc : w.cell? ad = some (.int .u8 b)) (hroom : n + 1 ≤ 240)
    (h : ∀ w', Blk w' g 5 (encC (l ++ [b])) → Fr (One g) w w' → wpList Tryd.prog ops Q rest (a.put o.dst (.slice (some ⟨g, 0, none⟩) (n + 1) 240)) w') : wpList Tryd.prog ops Q (o :: rest) a w := by
  subst hn
  obtain ⟨i0, hi, hz⟩ := Option.map_eq_some_iff.1 byte_info
  simp only [Prod.mk.injEq] at hz
  have hr := run_append_room (P := Tryd.prog) w 92 o.type 5 i0 Tryd.underlying92 hi g l.length 240 (encC l) hb ad 1 1 [.int .u8 b] (by simp [hz.2.1]) (fun j u hu => by
    match j, hu with
    | 0, hu => simp at hu; subst hu; rw [show ad.add 0 = ad by simp [Addr.add]]; exact hc) (by intro u hu; simp at hu; subst hu; rfl) hroom (by rw [encC_size _ (by omega), hz.2.1]; simpa using hroom)
  rw [hz.2.1, Nat.mul_one] at hr
  have e := encC_app l [b] hroom
  simp only [List.map_cons, List.map_nil, List.length_singleton] at e
  simp only [List.length_singleton] at hr
  rw [e] at hr
  refine wpList_plain hgd fun K hK => ?_
  unfold Oper.wp execOp
  simp only [ho, resolve, invoke, builtin, Sem.run_bind, Sem.run_pure, Result.andThen_ok, List.map_toArray, List.map_cons, List.map_nil, hs, hx, hr]
  exact hK _ _ (h _ (Blk.setRow hb _) ((Fr.refl (One g) w).setRow (.inl (One.self g)) _))

/-- append(out, text...), as a step of a region that draws. -/
theorem step_enc_str {ops : Array Oper} {o : Oper} {a : Act} {K : Act → World → Prop} {Q : Exit → Act → World → Prop} {E : Prop} (hgd : o.guard = none) (s x : Operand)
    (ho : o.op = .call { callee := .builtin .append, args := #[s, x], argTypes := #[92, 9] }) (l : List Int) (n : Nat) (hn : l.length = n)
    (hs : a.eval s = .slice (some ⟨g, 0, none⟩) n 240) (t : ByteArray) (m : List Int) (hx : a.eval x = .string t) (hm : numsT t = m) (n' : Nat) (hn' : (l ++ m).length = n') (hroom : n' ≤ 240) (hb : Blk w g 5 (encC l))
    (h : ∀ w', Blk w' g 5 (encC (l ++ m)) → Fr (One g) w w' → K (a.put o.dst (.slice (some ⟨g, 0, none⟩) n' 240)) w') :
    if Region.wanted o (yielded ops a.tmps) = true then Oper.wp Tryd.prog o a w K Q else E := by
  rw [if_pos (by simp [Region.wanted, hgd])]
  subst hm
  subst hn
  subst hn'
  rw [List.length_append, numsT_length] at hroom
  obtain ⟨i0, hi, hz⟩ := Option.map_eq_some_iff.1 byte_info
  simp only [Prod.mk.injEq] at hz
  have hr := Lib.run_append_room_string (P := Tryd.prog) w 92 9 o.type 5 i0 Tryd.underlying92 Tryd.underlying9 hi hz.2.1 g l.length 240 (encC l) hb t hroom (by rw [encC_size _ (by omega)]; exact hroom)
  rw [strCells_nums, ← numsT_length, encC_app l (numsT t) (by rw [numsT_length]; exact hroom)] at hr
  unfold Oper.wp execOp
  simp only [ho, resolve, invoke, builtin, Sem.run_bind, Sem.run_pure, Result.andThen_ok, List.map_toArray, List.map_cons, List.map_nil, hs, hx, hr]
  rw [← List.length_append]
  exact h _ (Blk.setRow hb _) ((Fr.refl (One g) w).setRow (.inl (One.self g)) _)
end

def slotB (x : Slt) : List Int := if x.1 then ((x.2.size : Nat) : Int) :: numsT x.2 else [255]
def encL (l : Int) (xs : List Slt) : List Int := putB l 8 ++ [((xs.length : Nat) : Int)] ++ xs.flatMap slotB
def encS (l : Int) (xs : List Slt) : ByteArray := strOfNums (encL l xs ++ List.replicate (240 - (encL l xs).length) 0)
/-- The bytes when k slots have been laid. -/
def encK (pb : List Int) (xs : List Slt) (k : Nat) : List Int := pb ++ [((xs.length : Nat) : Int)] ++ (xs.take k).flatMap slotB
theorem slotB_length {x : Slt} (h : odd x = false) : (slotB x).length = 1 + x.2.size := by
  unfold slotB
  cases hx : x.1 with
  | true => simp [numsT_length]; omega
  | false =>
    simp [odd, hx, empty_size] at h
    simp [h.1]
theorem slots_length {xs : List Slt} (h : xs.any odd = false) : (xs.flatMap slotB).length = sizeP xs := by
  induction xs with
  | nil => rfl
  | cons x xs ih =>
    simp only [List.any_cons, Bool.or_eq_false_iff] at h
    simp only [List.flatMap_cons, List.length_append, slotB_length h.1, ih h.2, sizeP, List.map_cons, List.sum_cons]
theorem encK_length {pb : List Int} (hp : pb.length = 8) {xs : List Slt} (h : xs.any odd = false) (k : Nat) : (encK pb xs k).length = 9 + sizeP (xs.take k) := by
  have : (xs.take k).any odd = false := by
    rw [List.any_eq_false] at h ⊢
    exact fun x hx => h x (List.mem_of_mem_take hx)
  unfold encK
  rw [List.length_append, List.length_append, hp, slots_length this]
  rfl
theorem sizeP_take (xs : List Slt) (k : Nat) : sizeP (xs.take k) ≤ sizeP xs := by
  have : sizeP xs = sizeP (xs.take k) + sizeP (xs.drop k) := by unfold sizeP; rw [← List.sum_append, ← List.map_append, List.take_append_drop]
  omega
theorem encK_step {pb : List Int} {xs : List Slt} {k : Nat} {x : Slt} (h : xs[k]? = some x) : encK pb xs (k + 1) = encK pb xs k ++ slotB x := by
  unfold encK
  rw [List.take_add_one, h]
  simp
theorem encK_all (l : Int) (xs : List Slt) : encK (putB l 8) xs xs.length = encL l xs := by unfold encK encL; rw [List.take_length]
structure GoodP (l : Int) (xs : List Slt) : Prop where
  l0 : 0 ≤ l
  l1 : l ≤ 1099511627776
  n : xs.length ≤ 32
  o : xs.any odd = false
  u : lastUsed xs = true
  s : 9 + sizeP xs ≤ 240
theorem goodP_iff {l : Int} {xs : List Slt} : goodP l xs = true ↔ GoodP l xs := by
  unfold goodP
  simp only [Bool.and_eq_true, decide_eq_true_eq, Bool.not_eq_true']
  exact ⟨fun ⟨⟨⟨⟨⟨a, b⟩, c⟩, d⟩, e⟩, f⟩ => ⟨a, b, c, d, e, f⟩, fun h => ⟨⟨⟨⟨⟨h.l0, h.l1⟩, h.n⟩, h.o⟩, h.u⟩, h.s⟩⟩
theorem encS_size {l : Int} {xs : List Slt} (h : GoodP l xs) : (encS l xs).size = 240 := by
  have := encK_length (putB_length l 8) h.o xs.length
  rw [encK_all, List.take_length] at this
  unfold encS
  rw [strOfNums_size, List.length_append, List.length_replicate, this]
  have := h.s
  omega

set_option maxRecDepth 100000 in
theorem run_mk240 (w : World) : (Instr.makeSlice 92 (.int .i64 0) (.int .i64 240)).run Tryd.prog w = .ok (.slice (some ⟨w.heap.size, 0, none⟩) 0 240) (w.alloc (.cells (encC []) 5)) := by
  have e : encC [] = madeCells #[.int .u8 0] 240 := by
    apply Array.ext
    · rw [encC_size _ (by simp)]; simp [madeCells]
    · intro i h1 h2
      show (List.replicate 240 (Value.int .u8 0)).toArray[i]'(by simpa [encC] using h1) = _
      rw [List.getElem_toArray, List.getElem_replicate]
      simp [madeCells, Nat.mod_one]
  rw [e]
  obtain ⟨i, hi, hz⟩ := Option.map_eq_some_iff.1 byte_info
  simp only [Prod.mk.injEq] at hz
  have := run_make (P := Tryd.prog) w 92 5 i (.int .u8 0) Tryd.underlying92 hi hz.1 .i64 .i64 0 240 (by omega) (by omega) (by rw [hz.2.2]; omega) (by omega)
  rw [hz.2.1] at this
  exact this

set_option maxRecDepth 100000 in
set_option maxHeartbeats 2000000 in
theorem enc_bad (w : World) (F : Nat → Prop) (l : Int) (A : Option Addr) (c : Nat) (xs : List Slt) (hx : Slots w F A xs) (hl : xs.length ≤ 4611686018427387904) (hg : goodP l xs = false) :
    Calls Tryd.prog 108 #[.agg #[.int .i64 l, .slice A xs.length c]] w fun e w' => e = .returned (.tuple #[.string ⟨#[]⟩, .int .i64 1]) ∧ Below w.heap.size w w' := by
  have HX := Lib.hid hx
  have HB : Hid (Below w.heap.size w (w.alloc (.cells #[.int .i64 l, .slice A xs.length c] 25))) := (Below.refl _ _).alloc (Nat.le_refl _) _
  have HG := Lib.hid hg
  clear hx hg
  go_enter Tryd.func108, Tryd.ntmps108
  go_wp2_with fail
  refine (good_any _ F l A c xs (HX.out.fr ((Fr.refl F w).alloc _)) hl).mono ?_
  rintro e w1 ⟨rfl, b1⟩
  rw [HG.out]
  go_wp2_with fail
  go_ret2
  exact ⟨rfl, HB.out.trans (b1.mono HB.out.size)⟩

set_option maxRecDepth 100000 in
set_option maxHeartbeats 4000000 in
theorem enc_any (w : World) (F : Nat → Prop) (l : Int) (A : Option Addr) (c : Nat) (xs : List Slt) (hx : Slots w F A xs) (hg : goodP l xs = true) :
    Calls Tryd.prog 108 #[.agg #[.int .i64 l, .slice A xs.length c]] w fun e w' => e = .returned (.tuple #[.string (encS l xs), .int .i64 0]) ∧ Below w.heap.size w w' := by
  have HX := Lib.hid hx
  have HB : Hid (Below w.heap.size w (w.alloc (.cells #[.int .i64 l, .slice A xs.length c] 25))) := (Below.refl _ _).alloc (Nat.le_refl _) _
  have HG := Lib.hid hg
  have HP := Lib.hid (goodP_iff.1 hg)
  have hl0 := HP.out.l0
  have hl1 := HP.out.l1
  have hn := HP.out.n
  have hmk := run_mk240
  have HBX := Lib.hid (Blk.new w 25 #[.int .i64 l, .slice A xs.length c])
  clear hx hg
  go_enter Tryd.func108, Tryd.ntmps108
  go_wp2_with fail
  refine (good_any _ F l A c xs (HX.out.fr ((Fr.refl F w).alloc _)) (by omega)).mono ?_
  rintro e w1 ⟨rfl, b1⟩
  rw [HG.out]
  have HBX1 := Lib.hid (HBX.out.below b1 HBX.out.lt)
  have HB1 := Lib.hid (HB.out.trans (b1.mono HB.out.size))
  clear b1
  have hg0 := HBX1.out.cell 0
  have hg1 := HBX1.out.cell 1
  simp only [List.getElem?_toArray] at hg0 hg1
  have hg2 := (HBX1.out.alloc (.cells (encC []) 5)).cell 0
  simp only [List.getElem?_toArray] at hg2
  obtain ⟨pb, hpb⟩ : ∃ pb, pb = putB l 8 := ⟨_, rfl⟩
  obtain ⟨st, hst⟩ : ∃ st, st = strOfNums pb := ⟨_, rfl⟩
  have hput : ∀ W : World, Calls Tryd.prog 109 #[.int .u64 (IntKind.u64.wrap l), .int .i64 8] W fun e w' => e = .returned (.string st) ∧ Below W.heap.size W w' := by
    intro W
    rw [hst, hpb, show IntKind.u64.wrap l = l by simp only [IntKind.wrap, IntKind.bits, IntKind.signed, Bool.false_and, Bool.false_eq_true, if_false]; omega]
    exact put_any W l 8 (by omega)
  have HPUT := Lib.hid hput
  have hpr : numsT st = pb := by rw [hst, hpb]; exact numsT_str (putB_range l 8)
  have hpl : pb.length = 8 := by rw [hpb]; exact putB_length l 8
  have hpl0 : ([] ++ pb).length = 8 := by simp [hpl]
  have HPB := Lib.hid hpb
  have HPL := Lib.hid hpl
  have HPL0 := Lib.hid hpl0
  have HPR := Lib.hid hpr
  clear hpb hst hput hpr hpl hpl0
  have HW := Lib.hid HB1.out.size
  go_upto_region 3 with fail
  go_cut [4] (fun out wx => ∃ g, out = .slice (some ⟨g, 0, none⟩) 8 240 ∧ Blk wx g 5 (encC pb) ∧ w1.heap.size ≤ g ∧ Below w1.heap.size w1 wx)
  case first =>
    go_region_law (first
      | (refine step_enc_str rfl _ _ rfl [] 0 rfl rfl st pb rfl HPR.out 8 HPL0.out (by decide) ?hb ?_
         case hb => first | exact Blk.new _ _ _ | exact Blk.below (Blk.drew (Blk.new w1 5 (encC []))) b2 (by simp)
         intro w3 hb3 hf3
         have HB3 := Lib.hid hb3
         have HF3 := Lib.hid hf3
         clear hb3 hf3)
      | (go_simp; go_at_call 109; refine (HPUT.out _).mono ?_; rintro e w2 ⟨rfl, b2⟩))
    all_goals (go_wp2_with fail; go_meet)
    all_goals first
      | exact ⟨_, rfl, HB3.out, Nat.le_refl _, (((((Fr.refl (One w1.heap.size) w1).alloc _).drew).below b2).trans HF3.out (Sub.refl _ _)).toBelow (Nat.le_refl _) (fun k hk => Nat.le_of_eq hk.symm)⟩
      | exact ⟨_, rfl, HB3.out, by have := b2.size; simpa using this, (((((Fr.refl (One w2.heap.size) w1).drew).below b2).alloc _).trans HF3.out (Sub.refl _ _)).toBelow (Nat.le_refl _) (fun k hk => by have := b2.size; rw [show k = w2.heap.size from hk]; simpa using this)⟩
  case rest =>
    obtain ⟨g, rfl, hbg, hg1w, hBx⟩ := hcut
    have hx0 := ((HBX1.out.below hBx HBX1.out.lt).alloc (.cells #[.int .u8 xs.length] 5)).cell 1
    have hx1 := (HBX1.out.below hBx HBX1.out.lt).cell 1
    simp only [List.getElem?_toArray] at hx0 hx1
    have HBG := Lib.hid hbg
    have HBx := Lib.hid hBx
    clear hbg hg0 hg1 hg2 hmk hBx
    have hne : Hid (w.heap.size ≠ g) := by have := HBX1.out.lt; unfold Hid; omega
    have hgW : Hid (w.heap.size ≤ g) := by have := HBX1.out.lt; unfold Hid; omega
    go_upto_region 4 with fail
    go_wp2_with (at_builtin; refine wpList_enc_byte (l := pb) rfl _ _ rfl 8 HPL.out rfl (HBG.out.alloc _) ⟨wc.heap.size, 0, none⟩ xs.length rfl ((Blk.new wc 5 #[.int .u8 xs.length]).cell 0) (by decide) ?_; intro w4 hb4 hf4; have HB4 := Lib.hid hb4; have HF4 := Lib.hid hf4; have hx4 := (((HBX1.out.below HBx.out HBX1.out.lt).alloc (.cells #[.int .u8 xs.length] 5)).fr hf4 hne.out).cell 1; simp only [List.getElem?_toArray] at hx4; clear hb4 hf4)
    have e0 : encK pb xs 0 = pb ++ [((xs.length : Nat) : Int)] := by simp [encK]
    have hb0 : Blk w4 g 5 (encC (encK pb xs 0)) := by rw [e0]; exact HB4.out
    have hl0' : (encK pb xs 0).length = 9 := by rw [e0, List.length_append, HPL.out]; rfl
    have hBel : Below w.heap.size w w4 := HB1.out.trans (((HBx.out.mono HB1.out.size).alloc (by have := HBx.out.size; have := HB1.out.size; omega) _).trans (HF4.out.toBelow (by have := HBx.out.size; have := HB1.out.size; simp; omega) (fun k hk => by rw [show k = g from hk]; exact hgW.out)))
    have HL0 := Lib.hid hl0'
    have HB0 := Lib.hid hb0
    clear hx0 hx1 hx4 e0 hl0' hb0
    go_loopw [4, 26] (fun out iv wr => ∃ k : Nat, iv = .int .i64 k ∧ k ≤ xs.length ∧ (∃ n, out = .slice (some ⟨g, 0, none⟩) n 240 ∧ Hid ((encK pb xs k).length = n)) ∧ Blk wr g 5 (encC (encK pb xs k)) ∧ Below w.heap.size w wr) (fun _ iv _ => xs.length - (intOf iv).toNat)
    case atStart => exact ⟨0, rfl, by omega, ⟨9, rfl, HL0.out⟩, HB0.out, hBel⟩
    case round =>
      obtain ⟨k, rfl, hk, ⟨n, rfl, hn'⟩, hbk, hBk⟩ := hrel
      have HBK := Lib.hid hbk
      clear hbk
      by_cases hlt : k < xs.length
      · obtain ⟨x, hxk⟩ : ∃ x, xs[k]? = some x := ⟨_, List.getElem?_eq_getElem hlt⟩
        obtain ⟨b, off, rfl, hbw, _, hc⟩ := HX.out (by omega)
        obtain ⟨hc1, hc2, _⟩ := hc k x hxk
        have hd1 : wr.cell? ⟨b, off + k * 2, none⟩ = some (.bool x.1) := (hBk.cell (p := ⟨b, off + k * 2, none⟩) hbw).trans hc1
        have hd2 : wr.cell? ⟨b, off + k * 2 + 1, none⟩ = some (.string x.2) := (hBk.cell (p := ⟨b, off + k * 2 + 1, none⟩) hbw).trans hc2
        have hodd : odd x = false := by have := List.any_eq_false.1 HP.out.o x (List.mem_of_getElem? hxk); simpa using this
        have hlen1 := encK_length HPL.out HP.out.o (k + 1)
        have hstep := encK_step (pb := pb) hxk
        have hsz : 9 + sizeP (xs.take (k + 1)) ≤ 240 := by have := sizeP_take xs (k + 1); have := HP.out.s; omega
        have hts : x.2.size ≤ 200 := by have := hodd; simp [odd] at this; omega
        have HST := Lib.hid hstep
        have HLEN := Lib.hid (show (encK pb xs (k + 1)).length ≤ 240 by rw [hlen1]; exact hsz)
        clear hc1 hc2 hc hxk hlen1 hstep hsz hodd
        obtain ⟨u, t⟩ := x
        have hts : t.size ≤ 200 := hts
        cases u with
        | false =>
          have HSB : Hid (encK pb xs (k + 1) = encK pb xs k ++ [255]) := HST.out
          have hroom : n + 1 ≤ 240 := by have := HLEN.out; rw [HSB.out, List.length_append, hn'.out] at this; exact this
          go_wp2_with (at_builtin; refine wpList_enc_byte (l := encK pb xs k) rfl _ _ rfl n hn'.out rfl ((HBK.out.alloc _).alloc _) ⟨wr.heap.size + 1, 0, none⟩ 255 rfl (cell_new2 _ _ _ _) hroom ?_; intro w5 hb5 hf5; have HB5 := Lib.hid hb5; have HF5 := Lib.hid hf5; clear hb5 hf5)
          go_roundw
          case rel =>
            refine ⟨k + 1, by go_num, by omega, ⟨n + 1, rfl, ?_⟩, ?_, ?_⟩
            · unfold Hid; rw [HSB.out, List.length_append, hn'.out]; rfl
            · rw [HSB.out]; exact HB5.out
            · exact ((hBk.alloc hBk.size _).alloc (by have := hBk.size; simp; omega) _).trans (HF5.out.toBelow (by have := hBk.size; simp; omega) (fun k hk => by rw [show k = g from hk]; exact hgW.out))
          case measure => simp [intOf]; omega
        | true =>
          have HSB : Hid (encK pb xs (k + 1) = (encK pb xs k ++ [((t.size : Nat) : Int)]) ++ numsT t) := by
            unfold Hid
            rw [HST.out, List.append_assoc]
            rfl
          have hroom : n + 1 + t.size ≤ 240 := by have := HLEN.out; rw [HSB.out, List.length_append, List.length_append, hn'.out, numsT_length] at this; exact this
          have HN1 : Hid ((encK pb xs k ++ [((t.size : Nat) : Int)]).length = n + 1) := by unfold Hid; rw [List.length_append, hn'.out]; rfl
          have hgb : g < wr.heap.size := HBK.out.lt
          have hwrg : Hid (wr.heap.size ≠ g) := by unfold Hid; omega
          clear hgb
          go_upto_region 10 with fail
          go_wp2_with (at_builtin; first
            | (refine wpList_enc_byte (l := encK pb xs k) rfl _ _ rfl n hn'.out rfl ((HBK.out.alloc _).alloc _) ⟨wr.heap.size + 1, 0, none⟩ t.size rfl (cell_new2 _ _ _ _) (by omega) ?_; intro w5 hb5 hf5; have HB5 := Lib.hid hb5; have HF5 := Lib.hid hf5; have hx5 := (((Blk.new wr 78 #[.bool true, .string t]).alloc (.cells #[.int .u8 t.size] 5)).fr hf5 hwrg.out).cell 1; simp only [List.getElem?_toArray] at hx5; clear hb5 hf5)
            | (refine wpList_enc_str (l := encK pb xs k ++ [((t.size : Nat) : Int)]) rfl _ _ rfl (n + 1) HN1.out rfl HB5.out t rfl hroom ?_; intro w6 hb6 hf6; have HB6 := Lib.hid hb6; have HF6 := Lib.hid hf6; clear hb6 hf6))
          go_roundw
          case rel =>
            refine ⟨k + 1, by go_num, by omega, ⟨n + 1 + t.size, rfl, ?_⟩, ?_, ?_⟩
            · unfold Hid; rw [HSB.out, List.length_append, HN1.out, numsT_length]
            · rw [HSB.out]; exact HB6.out
            · have h5 := ((hBk.alloc hBk.size (.cells #[.bool true, .string t] 78)).alloc (by have := hBk.size; simp; omega) (.cells #[.int .u8 t.size] 5)).trans (HF5.out.toBelow (by have := hBk.size; simp; omega) (fun k hk => by rw [show k = g from hk]; exact hgW.out))
              exact h5.trans (HF6.out.toBelow h5.size (fun k hk => by rw [show k = g from hk]; exact hgW.out))
          case measure => simp [intOf]; omega
      · obtain rfl : k = xs.length := by omega
        have hall := encK_all l xs
        rw [← HPB.out] at hall
        have hlen : n ≤ 240 := by
          have := encK_length HPL.out HP.out.o xs.length
          rw [hn'.out, List.take_length] at this
          have := HP.out.s
          omega
        have HALL := Lib.hid hall
        have hcv := run_convert_bytes_arg (P := Tryd.prog) wr 92 5 Tryd.underlying92 Tryd.underlying5 g 0 240 240 (encL l xs ++ List.replicate (240 - (encL l xs).length) 0) (by rw [List.length_append, List.length_replicate, ← HALL.out, hn'.out]; omega) (fun i hi => by
          rw [Nat.zero_add, HBK.out.cell i, HALL.out, encC]
          rw [List.getElem?_toArray, List.getD_eq_getElem?_getD]
          by_cases h : i < (encL l xs).length
          · rw [List.getElem?_append_left (by simpa using h), List.getElem?_append_left h, List.getElem?_map, List.getElem?_eq_getElem h]; rfl
          · rw [List.getElem?_append_right (by simpa using h), List.getElem?_append_right (by omega), List.length_map, List.getElem?_replicate, List.getElem?_replicate]
            have : (encL l xs).length = n := by rw [← HALL.out]; exact hn'.out
            rw [if_pos (by omega), if_pos (by omega)]; rfl) 9 Tryd.underlying9
        have HS : Hid (strOfNums (encL l xs ++ List.replicate (240 - (encL l xs).length) 0) = encS l xs) := rfl
        rw [HS.out] at hcv
        clear hall
        go_wp2_with fail
        go_ret2
        exact ⟨rfl, hBk⟩

end Go.Proofs.YtbikplckehbcnaaDoor
