/- sector.Print. -/
import Derived.Test.YtbdhicjebeoakaaDoorSec1
set_option linter.unusedVariables false
set_option linter.unusedSimpArgs false
namespace Go.Proofs.YtbdhicjebeoakaaDoor
open Go.RowKit

def zero64 : List UInt8 := List.replicate 64 0
def zerosB : Array Value := (bv zero64).toArray
theorem zero_bytes : (Tryd.prog.info? 85).map (·.zero) = some (some (.agg zerosB)) := by kernel_rfl
theorem wpList_new_bytes {ops : Array Oper} {rest : List Oper} {o : Oper} {a : Act} {w : World} {Q : Exit → Act → World → Prop} (hgd : o.guard = none) (ho : o.op = .alloc 85)
    (h : wpList Tryd.prog ops Q rest (a.put o.dst (.pointer (some ⟨w.heap.size, 0, none⟩))) (w.alloc (.cells zerosB 85))) : wpList Tryd.prog ops Q (o :: rest) a w :=
  wpList_alloc_zero hgd 85 ho zerosB zero_bytes h
theorem zero64_length : zero64.length = 64 := by simp [zero64]
structure PrM (w W : World) (pb g : Nat) (st ge no ix to : Nat) (da l : List UInt8) : Prop where
  below : Below w.heap.size w W
  piece : W.heap[pb]? = some (.cells #[.int .u64 (st : Int), .int .i64 (ge : Int), .int .i64 (no : Int), .int .i64 (ix : Int), .int .i64 (to : Int), .string ⟨da.toArray⟩] 24 (0, 0))
  bytes : W.heap[g]? = some (.cells (bv l).toArray 85 (0, 0))
  ne : pb ≠ g
  base : w.heap.size ≤ g
section
variable {w W W' : World} {pb g st ge no ix to : Nat} {da l l' : List UInt8}
theorem PrM.drew (h : PrM w W pb g st ge no ix to da l) : PrM w W.drew pb g st ge no ix to da l := ⟨h.below.drew, h.piece, h.bytes, h.ne, h.base⟩
theorem PrM.cells (h : PrM w W pb g st ge no ix to da l) : W.cell? ⟨pb, 0, none⟩ = some (.int .u64 (st : Int)) ∧ W.cell? ⟨pb, 1, none⟩ = some (.int .i64 (ge : Int)) ∧ W.cell? ⟨pb, 2, none⟩ = some (.int .i64 (no : Int)) ∧
    W.cell? ⟨pb, 3, none⟩ = some (.int .i64 (ix : Int)) ∧ W.cell? ⟨pb, 4, none⟩ = some (.int .i64 (to : Int)) ∧ W.cell? ⟨pb, 5, none⟩ = some (.string ⟨da.toArray⟩) := by
  have := block_cell h.piece
  exact ⟨this 0, this 1, this 2, this 3, this 4, this 5⟩
theorem PrM.next (h : PrM w W pb g st ge no ix to da l) (hf : Fr (fun x => x = g) W W') (hb : W'.heap[g]? = some (.cells (bv l').toArray 85 (0, 0))) : PrM w W' pb g st ge no ix to da l' :=
  ⟨h.below.trans (hf.below h.below.size (fun k hk => by subst hk; exact h.base)), (hf.block pb (block_lt h.piece) h.ne).trans h.piece, hb, h.ne, h.base⟩
theorem print_put (h : PrM w W pb g st ge no ix to da l) (off k n c : Nat) (hl : off + k ≤ l.length) (hk : k ≤ 64) (hn : n < 18446744073709551616) :
    Calls Tryd.prog 48 #[.slice (some ⟨g, off, none⟩) k c, .int .u64 (n : Int)] W fun e W' => e = .returned (.tuple #[]) ∧ PrM w W' pb g st ge no ix to da (laid l off k n) :=
  (put_any l g off k n c _ W h.bytes hl hk hn).mono fun e W' ⟨h1, h2, h3⟩ => ⟨h1, h.next h2 h3⟩
theorem laid_hid (h : Hid (l.length = 64)) (off k n : Nat) (hk : off + k ≤ 64) : Hid ((laid l off k n).length = 64) := Lib.hid (by rw [laid_length _ _ _ _ (by rw [h.out]; exact hk)]; exact h.out)
end
theorem bv_set (m : List UInt8) (i : Nat) (c : UInt8) : (bv m).set i (.int .u8 (c.toNat : Int)) = bv (m.set i c) := by simp [bv, List.map_set]
section
variable {w W W' : World} {pb g st ge no ix to : Nat} {da l l' : List UInt8}
theorem PrM.set18 (h : PrM w W pb g st ge no ix to da l) (n : Nat) (hn : n < 256) (hl : 18 < l.length) : PrM w (W.setCell ⟨g, 18, none⟩ (.int .u8 (n : Int))) pb g st ge no ix to da (l.set 18 (UInt8.ofNat n)) := by
  refine h.next ((Fr.refl (fun x => x = g) _).setCell (p := ⟨g, 18, none⟩) (.inl rfl) _) ?_
  have e : Value.int IntKind.u8 (n : Int) = .int .u8 ((UInt8.ofNat n).toNat : Int) := by simp; omega
  rw [e, heap_setCell_six _ h.bytes, List.setIfInBounds_toArray, bv_set]
theorem PrM.copied (h : PrM w W pb g st ge no ix to da l) (off : Nat) (t : ByteArray) : PrM w (W.setRow g (bv (l.take off ++ t.data.toList ++ l.drop (off + t.size))).toArray) pb g st ge no ix to da (l.take off ++ t.data.toList ++ l.drop (off + t.size)) :=
  h.next ((Fr.refl (fun x => x = g) _).setRow (g := g) (.inl rfl) _) (setRow_heap _ _ _ _ _ _ h.bytes)
theorem copied_length (l : List UInt8) (off : Nat) (t : List UInt8) (h : off + t.length ≤ l.length) : (l.take off ++ t ++ l.drop (off + t.length)).length = l.length := by simp; omega
end
theorem wpList_copy_data {ops : Array Oper} {rest : List Oper} {o : Oper} {a : Act} {w : World} {Q : Exit → Act → World → Prop} {ty : TypeId} (hg : o.guard = none) (d s : Operand) (ho : o.op = .call { callee := .builtin .copy, args := #[d, s], argTypes := #[52, 9] })
    (g off n c : Nat) (t : ByteArray) (l : List UInt8) (hb : w.heap[g]? = some (.cells (bv l).toArray ty (0, 0))) (hfit : off + t.size ≤ l.length) (hn : t.size ≤ n) (hd : a.eval d = .slice (some ⟨g, off, none⟩) n c) (hs : a.eval s = .string t)
    (h : wpList Tryd.prog ops Q rest (a.put o.dst (goInt t.size)) (w.setRow g (bv (l.take off ++ t.data.toList ++ l.drop (off + t.size))).toArray)) :
    wpList Tryd.prog ops Q (o :: rest) a w := by
  refine wpList_plain hg fun K hK => ?_
  have hrun := Lib.run_copy_row_string (P := Tryd.prog) w 52 9 o.type 5 g off n c t (bv l).toArray ty (by kernel_rfl) (by kernel_rfl) hb hn (by simpa [bv_length] using hfit)
  have e : ((bv l).toArray.toList.take off ++ Lib.byteCells t.data.toList ++ (bv l).toArray.toList.drop (off + t.size)).toArray = (bv (l.take off ++ t.data.toList ++ l.drop (off + t.size))).toArray := by
    simp [bv, Lib.byteCells, List.map_take, List.map_drop]
  rw [e] at hrun
  unfold Oper.wp
  simp [execOp, ho, resolve, invoke, builtin, hd, hs, hrun, Result.andThen]
  have h' := hK _ _ h
  simp only [List.append_assoc] at h'
  exact h'
theorem laid_at (A M B : List UInt8) (off k n : Nat) (hA : A.length = off) (hM : M.length = k) : laid (A ++ M ++ B) off k n = A ++ beL k n ++ B := by
  have h1 : (A ++ M ++ B).take off = A := by rw [List.append_assoc, ← hA, List.take_left]
  have h2 : (A ++ M ++ B).drop (off + k) = B := by rw [← hA, ← hM, ← List.length_append, List.drop_left]
  rw [laid, h1, h2]
theorem rep_split (a b : Nat) : List.replicate (a + b) (0 : UInt8) = List.replicate a 0 ++ List.replicate b 0 := (List.replicate_append_replicate).symm
theorem print_laid (st ge no ix to : Nat) (da : List UInt8) (h : da.length ≤ 37) :
    laid ((((laid (laid (laid (laid (laid zero64 0 8 st) 8 4 ge) 12 2 no) 14 2 ix) 16 2 to).set 18 (UInt8.ofNat da.length)).take 19) ++ da ++ (((laid (laid (laid (laid (laid zero64 0 8 st) 8 4 ge) 12 2 no) 14 2 ix) 16 2 to).set 18 (UInt8.ofNat da.length)).drop (19 + da.length))) 56 8 st
      = Pc.print ⟨st, ge, no, ix, to, da⟩ := by
  have e1 : laid zero64 0 8 st = beL 8 st ++ List.replicate 4 0 ++ List.replicate 52 0 := by
    have := laid_at [] (List.replicate 8 0) (List.replicate 4 0 ++ List.replicate 52 0) 0 8 st rfl (by simp)
    rw [List.append_assoc, ← List.nil_append (beL 8 st), List.append_assoc, List.nil_append] at *
    rw [zero64, show 64 = 8 + (4 + 52) by rfl, rep_split, rep_split]
    simpa using this
  have e2 : laid (laid zero64 0 8 st) 8 4 ge = (beL 8 st ++ beL 4 ge) ++ List.replicate 2 0 ++ List.replicate 50 0 := by
    rw [e1, laid_at _ _ _ 8 4 ge (beL_length _ _) (by simp), List.append_assoc (beL 8 st ++ beL 4 ge), ← rep_split]
  have e3 : laid (laid (laid zero64 0 8 st) 8 4 ge) 12 2 no = (beL 8 st ++ beL 4 ge ++ beL 2 no) ++ List.replicate 2 0 ++ List.replicate 48 0 := by
    rw [e2, laid_at _ _ _ 12 2 no (by simp [beL_length]) (by simp), List.append_assoc (beL 8 st ++ beL 4 ge ++ beL 2 no), ← rep_split]
  have e4 : laid (laid (laid (laid zero64 0 8 st) 8 4 ge) 12 2 no) 14 2 ix = (beL 8 st ++ beL 4 ge ++ beL 2 no ++ beL 2 ix) ++ List.replicate 2 0 ++ List.replicate 46 0 := by
    rw [e3, laid_at _ _ _ 14 2 ix (by simp [beL_length]) (by simp), List.append_assoc (beL 8 st ++ beL 4 ge ++ beL 2 no ++ beL 2 ix), ← rep_split]
  have e5 : laid (laid (laid (laid (laid zero64 0 8 st) 8 4 ge) 12 2 no) 14 2 ix) 16 2 to = (beL 8 st ++ beL 4 ge ++ beL 2 no ++ beL 2 ix ++ beL 2 to) ++ [0] ++ List.replicate 45 0 := by
    rw [e4, laid_at _ _ _ 16 2 to (by simp [beL_length]) (by simp), List.append_assoc (beL 8 st ++ beL 4 ge ++ beL 2 no ++ beL 2 ix ++ beL 2 to)]
    rfl
  rw [e5]
  have hX : (beL 8 st ++ beL 4 ge ++ beL 2 no ++ beL 2 ix ++ beL 2 to).length = 18 := by simp [beL_length]
  have hP : Pc.print ⟨st, ge, no, ix, to, da⟩ = (beL 8 st ++ beL 4 ge ++ beL 2 no ++ beL 2 ix ++ beL 2 to) ++ beL 1 da.length ++ da ++ List.replicate (37 - da.length) 0 ++ beL 8 st := by simp [Pc.print]
  rw [hP]
  generalize beL 8 st ++ beL 4 ge ++ beL 2 no ++ beL 2 ix ++ beL 2 to = X at hX ⊢
  have hs : (X ++ [0] ++ List.replicate 45 (0 : UInt8)).set 18 (UInt8.ofNat da.length) = (X ++ beL 1 da.length) ++ List.replicate 45 0 := by
    rw [List.append_assoc, List.set_append_right _ _ (by omega), hX, Nat.sub_self, List.singleton_append, List.set_cons_zero, List.append_assoc]
    simp only [beL, List.nil_append, List.singleton_append, Nat.mod_eq_of_lt (show da.length < 256 by omega)]
  rw [hs]
  have h19 : (X ++ beL 1 da.length).length = 19 := by simp [beL_length, hX]
  have ht : ((X ++ beL 1 da.length) ++ List.replicate 45 (0 : UInt8)).take 19 = X ++ beL 1 da.length := by rw [← h19, List.take_left]
  have hd : ((X ++ beL 1 da.length) ++ List.replicate 45 (0 : UInt8)).drop (19 + da.length) = List.replicate (37 - da.length) 0 ++ List.replicate 8 0 := by
    rw [← List.drop_drop, ← h19, List.drop_left, List.drop_replicate, show 45 - da.length = (37 - da.length) + 8 by omega, rep_split]
  rw [ht, hd, ← List.append_assoc]
  have := laid_at ((X ++ beL 1 da.length) ++ da ++ List.replicate (37 - da.length) 0) (List.replicate 8 0) [] 56 8 st (by simp [beL_length, hX]; omega) (by simp)
  simpa using this
theorem print_bad (st : Nat) (ge no ix to : Int) (da : List UInt8) (w : World) (hd : da.length ≤ 9223372036854775807) (hr : Pc.right ⟨st, ge, no, ix, to, da⟩ = false) :
    Calls Tryd.prog 12 #[.agg #[.int .u64 (st : Int), .int .i64 ge, .int .i64 no, .int .i64 ix, .int .i64 to, .string ⟨da.toArray⟩]] w fun e w' => e = .returned (.tuple #[.string ⟨#[]⟩, .int .i64 1]) ∧ Below w.heap.size w w' := by
  have HR := fun W => Lib.hid (right_any st ge no ix to da W hd)
  rw [hr] at HR
  clear hr
  go_enter Tryd.func12, Tryd.ntmps12
  go_wp2_with (go_at_call 15; refine (HR _).out.mono ?_; rintro e w1 ⟨rfl, hB⟩)
  go_ret2
  exact ⟨rfl, ((Below.refl _ _).alloc (Nat.le_refl _) _).trans (hB.mono (by simp))⟩
set_option maxRecDepth 20000 in
set_option maxHeartbeats 1000000 in
theorem print_ok (st : Nat) (ge no ix to : Nat) (da : List UInt8) (w : World) (hr : Pc.right ⟨st, ge, no, ix, to, da⟩ = true) (hst : st < 18446744073709551616) :
    Calls Tryd.prog 12 #[.agg #[.int .u64 (st : Int), .int .i64 (ge : Int), .int .i64 (no : Int), .int .i64 (ix : Int), .int .i64 (to : Int), .string ⟨da.toArray⟩]] w fun e w' =>
      e = .returned (.tuple #[.string ⟨(Pc.print ⟨st, ge, no, ix, to, da⟩).toArray⟩, .int .i64 0]) ∧ Below w.heap.size w w' := by
  have hri := (Pc.right_iff _).1 hr
  simp only at hri
  have HR := fun W => Lib.hid (right_any st ge no ix to da W (by omega))
  rw [hr] at HR
  have HRI := Lib.hid hri
  clear hr hri
  go_enter Tryd.func12, Tryd.ntmps12
  go_wp2_with fail
  refine (HR _).out.mono ?_
  rintro e w1 ⟨rfl, hB⟩
  have hpb : w1.heap[w.heap.size]? = some (.cells #[.int .u64 (st : Int), .int .i64 (ge : Int), .int .i64 (no : Int), .int .i64 (ix : Int), .int .i64 (to : Int), .string ⟨da.toArray⟩] 24 (0, 0)) := (hB.block _ (by simp)).trans (heap_alloc_new w _)
  have hlt : w.heap.size < w1.heap.size := block_lt hpb
  have HB := Lib.hid (((Below.refl _ w).alloc (Nat.le_refl _) _).trans (hB.mono (show w.heap.size ≤ _ by simp)))
  have HPB := Lib.hid hpb
  clear hB hpb
  go_wp2_with (with_reducible refine wpList_new_bytes rfl rfl ?_)
  have HM : Hid (PrM w (w1.alloc (.cells zerosB 85)) w.heap.size w1.heap.size st ge no ix to da zero64) := Lib.hid ⟨HB.out.alloc (show w.heap.size ≤ w1.heap.size by omega) _, (Below.heap_alloc _ _ _ hlt).trans HPB.out, heap_alloc_new w1 _, by omega, by omega⟩
  have HL : Hid (zero64.length = 64) := Lib.hid zero64_length
  have hge : IntKind.u64.wrap (ge : Int) = (ge : Int) := by have := HRI.out; simp [IntKind.wrap, IntKind.bits, IntKind.signed]; omega
  have hno : IntKind.u64.wrap (no : Int) = (no : Int) := by have := HRI.out; simp [IntKind.wrap, IntKind.bits, IntKind.signed]; omega
  have hix : IntKind.u64.wrap (ix : Int) = (ix : Int) := by have := HRI.out; simp [IntKind.wrap, IntKind.bits, IntKind.signed]; omega
  have hto : IntKind.u64.wrap (to : Int) = (to : Int) := by have := HRI.out; simp [IntKind.wrap, IntKind.bits, IntKind.signed]; omega
  have hge2 : ge < 18446744073709551616 := by have := HRI.out; omega
  have hno2 : no < 18446744073709551616 := by have := HRI.out; omega
  have hix2 : ix < 18446744073709551616 := by have := HRI.out; omega
  have hto2 : to < 18446744073709551616 := by have := HRI.out; omega
  clear HB HPB
  refine wp_still_tail 3 (by kernel_rfl) (by kernel_rfl) ?_
  simp only [List.take_succ_cons, List.take_zero, List.drop_succ_cons, List.drop_zero]
  obtain ⟨k0, k1, k2, k3, k4, k5⟩ := HM.out.cells
  iterate 3 still_step
  refine wpStill_nil ?_
  clear k0 k1 k2 k3 k4 k5
  go_wp2_with fail
  refine (print_put HM.out.drew 0 8 st 64 (by rw [HL.out]; omega) (by omega) (by omega)).mono ?_
  rintro e w2 ⟨rfl, hm⟩
  have HL := laid_hid HL 0 8 st (by omega)
  have HM := Lib.hid hm
  clear hm
  go_wp2_with fail
  refine wp_still_tail 4 (by kernel_rfl) (by kernel_rfl) ?_
  simp only [List.take_succ_cons, List.take_zero, List.drop_succ_cons, List.drop_zero]
  obtain ⟨k0, k1, k2, k3, k4, k5⟩ := HM.out.cells
  iterate 4 still_step
  refine wpStill_nil ?_
  clear k0 k1 k2 k3 k4 k5
  go_wp2_with fail
  refine (print_put HM.out.drew 8 4 ge 56 (by rw [HL.out]; omega) (by omega) (by omega)).mono ?_
  rintro e w2 ⟨rfl, hm⟩
  have HL := laid_hid HL 8 4 ge (by omega)
  have HM := Lib.hid hm
  clear hm
  go_wp2_with fail
  refine wp_still_tail 4 (by kernel_rfl) (by kernel_rfl) ?_
  simp only [List.take_succ_cons, List.take_zero, List.drop_succ_cons, List.drop_zero]
  obtain ⟨k0, k1, k2, k3, k4, k5⟩ := HM.out.cells
  iterate 4 still_step
  refine wpStill_nil ?_
  clear k0 k1 k2 k3 k4 k5
  go_wp2_with fail
  refine (print_put HM.out.drew 12 2 no 52 (by rw [HL.out]; omega) (by omega) (by omega)).mono ?_
  rintro e w2 ⟨rfl, hm⟩
  have HL := laid_hid HL 12 2 no (by omega)
  have HM := Lib.hid hm
  clear hm
  go_wp2_with fail
  refine wp_still_tail 4 (by kernel_rfl) (by kernel_rfl) ?_
  simp only [List.take_succ_cons, List.take_zero, List.drop_succ_cons, List.drop_zero]
  obtain ⟨k0, k1, k2, k3, k4, k5⟩ := HM.out.cells
  iterate 4 still_step
  refine wpStill_nil ?_
  clear k0 k1 k2 k3 k4 k5
  go_wp2_with fail
  refine (print_put HM.out.drew 14 2 ix 50 (by rw [HL.out]; omega) (by omega) (by omega)).mono ?_
  rintro e w2 ⟨rfl, hm⟩
  have HL := laid_hid HL 14 2 ix (by omega)
  have HM := Lib.hid hm
  clear hm
  go_wp2_with fail
  refine wp_still_tail 4 (by kernel_rfl) (by kernel_rfl) ?_
  simp only [List.take_succ_cons, List.take_zero, List.drop_succ_cons, List.drop_zero]
  obtain ⟨k0, k1, k2, k3, k4, k5⟩ := HM.out.cells
  iterate 4 still_step
  refine wpStill_nil ?_
  clear k0 k1 k2 k3 k4 k5
  go_wp2_with fail
  refine (print_put HM.out.drew 16 2 to 48 (by rw [HL.out]; omega) (by omega) (by omega)).mono ?_
  rintro e w2 ⟨rfl, hm⟩
  have HL := laid_hid HL 16 2 to (by omega)
  have HM := Lib.hid hm
  clear hm
  obtain ⟨k0, k1, k2, k3, k4, k5⟩ := HM.out.cells
  have hsz : (⟨da.toArray⟩ : ByteArray).size = da.length := by simp [ByteArray.size]
  have hdl : da.length ≤ 37 := HRI.out.2.2.2.2.2.2.2.2
  have hda : (da.length : Int) % 256 = (da.length : Int) := by omega
  have hx18 : ∃ x, w2.cell? ⟨w1.heap.size, 18, none⟩ = some (.int .u8 x) := by
    rw [block_cell HM.out.bytes, List.getElem?_toArray, bv_get, List.getElem?_eq_getElem (by rw [HL.out]; omega)]
    exact ⟨_, rfl⟩
  obtain ⟨x18, hx18⟩ := hx18
  have hf18 : w2.frozen? ⟨w1.heap.size, 18, none⟩ = false := block_free HM.out.bytes _
  generalize hL : laid (laid (laid (laid (laid zero64 0 8 st) 8 4 ge) 12 2 no) 14 2 ix) 16 2 to = l5 at HM HL
  have HL5 := Lib.hid hL
  clear hL
  go_wp2_with fail
  have HM := Lib.hid (HM.out.set18 da.length (by omega) (by rw [HL.out]; omega))
  have HL : Hid ((l5.set 18 (UInt8.ofNat da.length)).length = 64) := Lib.hid (by rw [List.length_set]; exact HL.out)
  clear hx18 hf18 k0 k1 k2 k3 k4 k5
  refine wp_still_tail 3 (by kernel_rfl) (by kernel_rfl) ?_
  simp only [List.take_succ_cons, List.take_zero, List.drop_succ_cons, List.drop_zero]
  obtain ⟨k0, k1, k2, k3, k4, k5⟩ := HM.out.cells
  iterate 3 still_step
  refine wpStill_nil ?_
  clear k0 k1 k2 k3 k4 k5
  refine wpList_copy_data rfl _ _ rfl w1.heap.size 19 37 45 ⟨da.toArray⟩ _ HM.out.drew.bytes (by rw [hsz, HL.out]; omega) (by rw [hsz]; omega) rfl rfl ?_
  have hm := HM.out.drew.copied 19 ⟨da.toArray⟩
  rw [hsz] at hm ⊢
  have HL : Hid (((l5.set 18 (UInt8.ofNat da.length)).take 19 ++ da ++ (l5.set 18 (UInt8.ofNat da.length)).drop (19 + da.length)).length = 64) := Lib.hid ((copied_length _ 19 da (by rw [HL.out]; omega)).trans HL.out)
  generalize World.setRow _ _ _ = w4 at hm ⊢
  have HM : Hid (PrM w w4 w.heap.size w1.heap.size st ge no ix to da ((l5.set 18 (UInt8.ofNat da.length)).take 19 ++ da ++ (l5.set 18 (UInt8.ofNat da.length)).drop (19 + da.length))) := Lib.hid hm
  generalize hl7 : (l5.set 18 (UInt8.ofNat da.length)).take 19 ++ da ++ (l5.set 18 (UInt8.ofNat da.length)).drop (19 + da.length) = l7 at HM HL
  have HL7 := Lib.hid hl7
  clear hm hl7
  go_wp2_with fail
  refine wp_still_tail 3 (by kernel_rfl) (by kernel_rfl) ?_
  simp only [List.take_succ_cons, List.take_zero, List.drop_succ_cons, List.drop_zero]
  obtain ⟨k0, k1, k2, k3, k4, k5⟩ := HM.out.cells
  iterate 3 still_step
  refine wpStill_nil ?_
  clear k0 k1 k2 k3 k4 k5
  go_wp2_with fail
  refine (print_put HM.out.drew 56 8 st 8 (by rw [HL.out]; omega) (by omega) (by omega)).mono ?_
  rintro e w5 ⟨rfl, hm⟩
  have HL := laid_hid HL 56 8 st (by omega)
  have HM := Lib.hid hm
  clear hm
  have hcv : (convert 52 9 (.slice (some ⟨w1.heap.size, 0, none⟩) 64 64)).run Tryd.prog w5 = .ok (.string ⟨(laid l7 56 8 st).toArray⟩) w5 := by
    have := run_convert_bytes_back (P := Tryd.prog) w5 52 9 5 ⟨w1.heap.size, 0, none⟩ 64 (laid l7 56 8 st) (by kernel_rfl) (by kernel_rfl) (by kernel_rfl) (fun j hj => by
      rw [add_at, block_cell HM.out.bytes, Nat.zero_add, List.getElem?_toArray, bv_get, List.getElem?_eq_getElem hj]; rfl)
    rwa [HL.out] at this
  go_wp2_with fail
  go_ret2
  refine ⟨?_, HM.out.below⟩
  have key := print_laid st ge no ix to da hdl
  rw [HL5.out, HL7.out] at key
  show Ending.returned (.tuple #[.string ⟨(laid l7 56 8 st).toArray⟩, .int .i64 0]) = _
  rw [key]
end Go.Proofs.YtbdhicjebeoakaaDoor
