/- Memory laws used by the walks of this seat: frames with footprints; loads, stores, copies of whole arrays and structs inside a block. -/
import Derived.WalkKit
import Derived.WalkLawsBesides
import Derived.StillTailTactics
import Derived.Lib.BufferWrite
import Derived.Laws.CopyOwn
import Derived.Great.BuildSlice
import Derived.Maps.AppendAt
import Derived.Deep.LoopGhost
import Derived.Deep.QuietTactic
import Derived.KernelRfl
import Derived.Lib.Hide
import Derived.Deep.DeepFit
set_option linter.unusedVariables false
set_option linter.unusedSimpArgs false
namespace Go.Proofs.YtbdhicjebeoakaaDoor
open Go.RowKit

theorem ret_int {k : IntKind} {a b : Int} (h : a = b) : Ending.returned (.int k a) = .returned (.int k b) := by rw [h]
theorem ret_bool {a b : Bool} (h : a = b) : Ending.returned (.bool a) = .returned (.bool b) := by rw [h]
theorem ret_str {a b : ByteArray} (h : a = b) : Ending.returned (.string a) = .returned (.string b) := by rw [h]

/-! ### Frames -/
/-- Of the blocks that were there only those of F may have turned. -/
structure Fr (F : Nat → Prop) (w w' : World) : Prop where
  os : w'.os = w.os
  tape : w'.tape = w.tape
  output : w'.output = w.output
  size : w.heap.size ≤ w'.heap.size
  block : ∀ k, k < w.heap.size → ¬ F k → w'.heap[k]? = w.heap[k]?
/-- F, and what is new between the two worlds. -/
def Ext (F : Nat → Prop) (w w' : World) : Nat → Prop := fun k => F k ∨ (w.heap.size ≤ k ∧ k < w'.heap.size)
theorem Ext.old {F : Nat → Prop} {w w' : World} {k : Nat} (h : F k) : Ext F w w' k := .inl h
theorem Ext.new {F : Nat → Prop} {w w' : World} {k : Nat} (h : w.heap.size ≤ k) (h' : k < w'.heap.size) : Ext F w w' k := .inr ⟨h, h'⟩
theorem Fr.refl (F : Nat → Prop) (w : World) : Fr F w w := ⟨rfl, rfl, rfl, Nat.le_refl _, fun _ _ _ => rfl⟩
theorem Fr.trans {F : Nat → Prop} {a b c : World} (h : Fr F a b) (k : Fr (Ext F a b) b c) : Fr F a c :=
  ⟨k.os.trans h.os, k.tape.trans h.tape, k.output.trans h.output, Nat.le_trans h.size k.size, fun i hi hf =>
    (k.block i (Nat.lt_of_lt_of_le hi h.size) (fun e => by rcases e with e | e; exact hf e; omega)).trans (h.block i hi hf)⟩
theorem Fr.mono {F G : Nat → Prop} {w w' : World} (h : Fr F w w') (hg : ∀ k, F k → G k) : Fr G w w' :=
  ⟨h.os, h.tape, h.output, h.size, fun k hk hf => h.block k hk (fun e => hf (hg k e))⟩
theorem Fr.trans' {F : Nat → Prop} {a b c : World} (h : Fr F a b) (k : Fr F b c) : Fr F a c := h.trans (k.mono fun _ e => .inl e)
theorem Fr.alloc {F : Nat → Prop} {a w : World} (h : Fr F a w) (o : Obj) : Fr F a (w.alloc o) :=
  ⟨h.os, h.tape, h.output, by simp; have := h.size; omega, fun k hk hf => by rw [Below.heap_alloc _ _ _ (by have := h.size; omega)]; exact h.block k hk hf⟩
theorem Fr.drew {F : Nat → Prop} {a w : World} (h : Fr F a w) : Fr F a w.drew := ⟨h.os, h.tape, h.output, h.size, h.block⟩
theorem Fr.setCell {F : Nat → Prop} {a w : World} (h : Fr F a w) {p : Addr} (hp : F p.block ∨ a.heap.size ≤ p.block) (u : Value) : Fr F a (w.setCell p u) :=
  ⟨h.os, h.tape, h.output, by simp; exact h.size, fun k hk hf => by
    rw [Below.heap_setCell _ _ _ _ (fun e => by subst e; rcases hp with hp | hp; exact hf hp; omega)]; exact h.block k hk hf⟩
theorem Fr.setRow {F : Nat → Prop} {a w : World} (h : Fr F a w) {g : Nat} (hp : F g ∨ a.heap.size ≤ g) (cs : Array Value) : Fr F a (w.setRow g cs) :=
  ⟨h.os, h.tape, h.output, by simp; exact h.size, fun k hk hf => by
    rw [setRow_other _ _ _ _ (fun e => by subst e; rcases hp with hp | hp; exact hf hp; omega)]; exact h.block k hk hf⟩
theorem Fr.grown {F : Nat → Prop} {a w w' : World} (h : Fr F a w) {row : Option Nat} (hg : w.grownBy w' row) (hr : ∀ k, row = some k → F k ∨ a.heap.size ≤ k) : Fr F a w' :=
  ⟨hg.os.trans h.os, hg.tape.trans h.tape, hg.output.trans h.output, Nat.le_trans h.size hg.size, fun k hk hf =>
    (hg.block k (Nat.lt_of_lt_of_le hk h.size) (fun e => by rcases hr k e.symm with h1 | h1; exact hf h1; omega)).trans (h.block k hk hf)⟩
theorem Fr.below {F : Nat → Prop} {w w' : World} (h : Fr F w w') {B : Nat} (hB : B ≤ w.heap.size) (hF : ∀ k, F k → B ≤ k) : Below B w w' :=
  ⟨h.os, h.tape, h.output, h.size, fun k hk => h.block k (by omega) (fun e => by have := hF k e; omega)⟩
theorem Fr.of_below {F : Nat → Prop} {w w' : World} (h : Below w.heap.size w w') : Fr F w w' := ⟨h.os, h.tape, h.output, h.size, fun k hk _ => h.block k hk⟩
theorem Fr.then_below {F : Nat → Prop} {a w w' : World} (h : Fr F a w) (k : Below w.heap.size w w') : Fr F a w' := h.trans (Fr.of_below k)
theorem Ext.mono {F : Nat → Prop} {a w w' : World} (hs : w.heap.size ≤ w'.heap.size) : ∀ k, Ext F a w k → Ext F a w' k := by
  rintro k (h | ⟨h, h'⟩)
  · exact .inl h
  · exact .inr ⟨h, by omega⟩
theorem Ext.ext {F : Nat → Prop} {a w w' : World} (h1 : a.heap.size ≤ w.heap.size) (hs : w.heap.size ≤ w'.heap.size) : ∀ k, Ext (Ext F a w) w w' k → Ext F a w' k := by
  rintro k ((h | ⟨h, h'⟩) | ⟨h, h'⟩)
  · exact .inl h
  · exact .inr ⟨h, by omega⟩
  · exact .inr ⟨by omega, h'⟩

/-! ### Blocks that are known whole -/
theorem block_cell {w : World} {g : Nat} {cs : Array Value} {t : TypeId} (h : w.heap[g]? = some (.cells cs t (0, 0))) (i : Nat) : w.cell? ⟨g, i, none⟩ = cs[i]? := cell_of_row w g i cs t (0, 0) h
theorem block_free {w : World} {g : Nat} {cs : Array Value} {t : TypeId} (h : w.heap[g]? = some (.cells cs t (0, 0))) (i : Nat) : w.frozen? ⟨g, i, none⟩ = false := frozen_of_row w g i cs t h
theorem block_lt {w : World} {g : Nat} {o : Obj} (h : w.heap[g]? = some o) : g < w.heap.size := (Array.getElem?_eq_some_iff.1 h).1
theorem block_ne {w : World} {g k : Nat} {a b : Array Value} {t u : TypeId} (h : w.heap[g]? = some (.cells a t (0, 0))) (h' : w.heap[k]? = some (.cells b u (0, 0))) (hne : t ≠ u) : g ≠ k := by
  intro e
  subst e
  rw [h] at h'
  injection h' with h'
  injection h' with _ h' _
  exact hne h'
theorem add_at (g o j : Nat) : (⟨g, o, none⟩ : Addr).add j = ⟨g, o + j, none⟩ := by unfold Addr.add; split <;> simp_all
theorem heap_setCell_six {w : World} {b i : Nat} {cs : Array Value} {t : TypeId} (v : Value) (h : w.heap[b]? = some (.cells cs t (0, 0))) :
    (w.setCell ⟨b, i, none⟩ v).heap[b]? = some (.cells (cs.setIfInBounds i v) t (0, 0)) := heap_setCell_same w b i cs t v h
theorem alloc_setRow (w : World) (old cs : Array Value) (t : TypeId) : (w.alloc (.cells old t)).setRow w.heap.size cs = w.alloc (.cells cs t) := by
  unfold World.alloc World.setRow
  congr 1
  apply Array.ext
  · simp
  · intro i h1 h2
    simp only [Array.getElem_modify, Array.getElem_push]
    by_cases hi : i < w.heap.size
    · simp [hi, show ¬ w.heap.size = i by omega]
    · have : w.heap.size = i := by simp at h1; omega
      simp [this]

/-! ### Bytes -/
def bv (l : List UInt8) : List Value := l.map fun b => .int .u8 b.toNat
theorem bv_length (l : List UInt8) : (bv l).length = l.length := by simp [bv]
theorem bv_append (a b : List UInt8) : bv (a ++ b) = bv a ++ bv b := by simp [bv]
theorem bv_one (l : List UInt8) : ∀ v ∈ bv l, v.oneCell' = true := by
  intro v hv
  simp only [bv, List.mem_map] at hv
  obtain ⟨b, _, rfl⟩ := hv
  rfl
theorem bv_take (l : List UInt8) (k : Nat) : bv (l.take k) = (bv l).take k := by simp [bv, List.map_take]
theorem bv_drop (l : List UInt8) (k : Nat) : bv (l.drop k) = (bv l).drop k := by simp [bv, List.map_drop]
theorem bv_get (l : List UInt8) (i : Nat) : (bv l)[i]? = l[i]?.map fun b => Value.int .u8 b.toNat := by simp [bv]

/-! ### Rows of records of one size -/
def rowV {α : Type} (enc : α → List Value) (l : List α) : List Value := l.flatMap enc
section
variable {α : Type} {enc : α → List Value} {n : Nat}
theorem rowV_length (l : List α) (h : ∀ x ∈ l, (enc x).length = n) : (rowV enc l).length = l.length * n := by
  induction l with
  | nil => simp [rowV]
  | cons x r ih =>
    have h1 := h x (by simp)
    have h2 := ih (fun y hy => h y (by simp [hy]))
    simp only [rowV, List.flatMap_cons, List.length_append, List.length_cons] at h2 ⊢
    rw [h1, h2, Nat.add_mul]; omega
theorem rowV_append (a b : List α) : rowV enc (a ++ b) = rowV enc a ++ rowV enc b := by simp [rowV]
theorem rowV_take (l : List α) (h : ∀ x ∈ l, (enc x).length = n) (k : Nat) (hk : k ≤ l.length) : (rowV enc l).take (k * n) = rowV enc (l.take k) := by
  have e : rowV enc l = rowV enc (l.take k) ++ rowV enc (l.drop k) := by rw [← rowV_append, List.take_append_drop]
  rw [e]
  have hl : (rowV enc (l.take k)).length = k * n := by
    rw [rowV_length (l.take k) (fun x hx => h x (List.mem_of_mem_take hx)), List.length_take, Nat.min_eq_left hk]
  rw [← hl, List.take_left]
theorem rowV_drop (l : List α) (h : ∀ x ∈ l, (enc x).length = n) (k : Nat) (hk : k ≤ l.length) : (rowV enc l).drop (k * n) = rowV enc (l.drop k) := by
  have e : rowV enc l = rowV enc (l.take k) ++ rowV enc (l.drop k) := by rw [← rowV_append, List.take_append_drop]
  rw [e]
  have hl : (rowV enc (l.take k)).length = k * n := by
    rw [rowV_length (l.take k) (fun x hx => h x (List.mem_of_mem_take hx)), List.length_take, Nat.min_eq_left hk]
  rw [← hl, List.drop_left]
/-- Record i lies from i * n on. -/
theorem rowV_get (l : List α) (h : ∀ x ∈ l, (enc x).length = n) (i : Nat) (hi : i < l.length) (j : Nat) (v : Value) (hv : (enc l[i])[j]? = some v) : (rowV enc l)[i * n + j]? = some v := by
  have hd := rowV_drop l h i (by omega)
  rw [← List.getElem?_drop, hd, List.drop_eq_getElem_cons hi]
  simp only [rowV, List.flatMap_cons]
  rw [List.getElem?_append_left (List.getElem?_eq_some_iff.1 hv).1]
  exact hv
/-- Record i is written anew. -/
theorem rowV_set (l : List α) (h : ∀ x ∈ l, (enc x).length = n) (i : Nat) (hi : i < l.length) (x : α) (hx : (enc x).length = n) :
    (rowV enc l).take (i * n) ++ enc x ++ (rowV enc l).drop (i * n + n) = rowV enc (l.set i x) := by
  have h1 := rowV_take l h i (by omega)
  have h2 := rowV_drop l h (i + 1) (by omega)
  rw [show i * n + n = (i + 1) * n by rw [Nat.add_mul]; omega, h1, h2, List.set_eq_take_append_cons_drop, if_pos hi]
  simp [rowV]
end

/-! ### Loads, stores, new variables of array and struct type -/
section
variable {P : Program}
theorem run_loadVar_at (w : World) (g off : Nat) (t ty : TypeId) (cs : Array Value) (fr : Nat × Nat) (d : TypeDesc) (seg : List Value) (hg : w.heap[g]? = some (.cells cs t fr))
    (hu : P.underlying ty = some d) (hd : (match d with | .struct _ | .array _ _ => true | _ => false) = true) (hi : (P.info? ty).map (·.size) = some seg.length)
    (hseg : ∀ j v, seg[j]? = some v → cs[off + j]? = some v) : (loadVar ty ⟨g, off, none⟩).run P w = .ok (.agg seg.toArray) w := by
  have hl : (loadCells ⟨g, off, none⟩ seg.length).run P w = .ok seg.toArray w :=
    run_loadCells_list (P := P) w ⟨g, off, none⟩ seg (fun j v hv => by
      rw [add_at, cell_of_row w g _ cs t fr hg]
      exact hseg j v hv)
  cases hq : P.info? ty with
  | none => simp [hq] at hi
  | some i =>
    have hs : i.size = seg.length := by simpa [hq] using hi
    have hagg : (isAgg ty).run P w = .ok true w := by
      unfold isAgg
      rw [Sem.run_bind, run_underlying hu w]
      cases d <;> simp_all
    simp [loadVar, Sem.run_bind, hagg, sizeOf, typeInfo, hq, hs, hl]
theorem run_load_at {w : World} {ty : TypeId} {g off : Nat} (t : TypeId) (cs : Array Value) (fr : Nat × Nat) (d : TypeDesc) (seg : List Value) (hg : w.heap[g]? = some (.cells cs t fr))
    (hu : P.underlying ty = some d) (hd : (match d with | .struct _ | .array _ _ => true | _ => false) = true) (hi : (P.info? ty).map (·.size) = some seg.length)
    (hseg : ∀ j v, seg[j]? = some v → cs[off + j]? = some v) : (Instr.loadAt ty (.pointer (some ⟨g, off, none⟩))).run P w = .ok (.agg seg.toArray) w := by
  simp only [Instr.loadAt, Instr.sureAddr, Sem.run_bind, Sem.run_pure, Result.andThen_ok, run_loadVar_at w g off t ty cs fr d seg hg hu hd hi hseg]
theorem wpList_load_at {ops : Array Oper} {rest : List Oper} {o : Oper} {a : Act} {w : World} {Q : Exit → Act → World → Prop} (hgd : o.guard = none) (ty : TypeId) (x : Operand) (ho : o.op = .load ty x)
    (g off : Nat) (hx : a.eval x = .pointer (some ⟨g, off, none⟩)) (t : TypeId) (cs : Array Value) (fr : Nat × Nat) (d : TypeDesc) (seg : List Value) (hg : w.heap[g]? = some (.cells cs t fr))
    (hu : P.underlying ty = some d) (hd : (match d with | .struct _ | .array _ _ => true | _ => false) = true) (hi : (P.info? ty).map (·.size) = some seg.length)
    (hseg : ∀ j v, seg[j]? = some v → cs[off + j]? = some v)
    (h : wpList P ops Q rest (a.put o.dst (.agg seg.toArray)) w) : wpList P ops Q (o :: rest) a w :=
  wpList_plain hgd fun _ hK => by
    unfold Oper.wp execOp
    simp only [ho, hx, Sem.run_bind, run_load_at t cs fr d seg hg hu hd hi hseg, Result.andThen_ok]
    exact hK _ _ h
theorem wpStill_load_at {ops : Array Oper} {rest : List Oper} {o : Oper} {a : Act} {w : World} {Q : Act → Prop} (hgd : o.guard = none) (ty : TypeId) (x : Operand) (ho : o.op = .load ty x)
    (g off : Nat) (hx : a.eval x = .pointer (some ⟨g, off, none⟩)) (t : TypeId) (cs : Array Value) (fr : Nat × Nat) (d : TypeDesc) (seg : List Value) (hg : w.heap[g]? = some (.cells cs t fr))
    (hu : P.underlying ty = some d) (hd : (match d with | .struct _ | .array _ _ => true | _ => false) = true) (hi : (P.info? ty).map (·.size) = some seg.length)
    (hseg : ∀ j v, seg[j]? = some v → cs[off + j]? = some v)
    (h : wpStill P ops w Q rest (a.put o.dst (.agg seg.toArray))) : wpStill P ops w Q (o :: rest) a := by
  refine wpStill_step (fun K hK => ?_)
  rw [if_pos (by simp [Region.wanted, hgd])]
  unfold Oper.still execOp
  simp only [ho, hx, Sem.run_bind, run_load_at t cs fr d seg hg hu hd hi hseg, Result.andThen_ok]
  exact ⟨rfl, hK _ h⟩
theorem run_storeVar_at (w : World) (g off : Nat) (t ty : TypeId) (cur : Array Value) (cells : Array Value) (hg : w.heap[g]? = some (.cells cur t (0, 0))) (hi : (P.info? ty).map (·.size) = some cells.size)
    (hfit : off + cells.size ≤ cur.size) (h1 : ∀ v ∈ cells.toList, v.oneCell' = true) :
    (storeVar ty ⟨g, off, none⟩ (.agg cells)).run P w = .ok () (w.setRow g (cur.toList.take off ++ cells.toList ++ cur.toList.drop (off + cells.size)).toArray) := by
  have hst := run_storeCells_at P g off t cells.toList 0 cur w hg (by simpa using hfit) h1
  simp only [Nat.add_zero, Array.length_toList] at hst
  cases hq : P.info? ty with
  | none => simp [hq] at hi
  | some i =>
    have hs : cells.size = i.size := by simp [hq] at hi; omega
    simp only [storeVar, sizeOf, typeInfo, Sem.run_bind, run_program, Result.andThen_ok, hq, Sem.run_pure, Value.cells, hs, ne_eq, not_true_eq_false, if_false]
    rw [hs] at hst
    exact hst
theorem wpList_store_at {ops : Array Oper} {rest : List Oper} {o : Oper} {a : Act} {w : World} {Q : Exit → Act → World → Prop} (hgd : o.guard = none) (ty : TypeId) (x y : Operand) (ho : o.op = .store ty x y)
    (g off : Nat) (cells : Array Value) (hx : a.eval x = .pointer (some ⟨g, off, none⟩)) (hy : a.eval y = .agg cells)
    (t : TypeId) (cur : Array Value) (hg : w.heap[g]? = some (.cells cur t (0, 0))) (hi : (P.info? ty).map (·.size) = some cells.size)
    (hfit : off + cells.size ≤ cur.size) (h1 : ∀ v ∈ cells.toList, v.oneCell' = true)
    (h : wpList P ops Q rest (a.put o.dst undef) (w.setRow g (cur.toList.take off ++ cells.toList ++ cur.toList.drop (off + cells.size)).toArray)) : wpList P ops Q (o :: rest) a w :=
  wpList_plain hgd fun _ hK => by
    unfold Oper.wp execOp
    simp only [ho, hx, hy, Instr.storeAt, Instr.sureAddr, Sem.run_bind, Sem.run_pure, Result.andThen_ok, run_storeVar_at w g off t ty cur cells hg hi hfit h1]
    exact hK _ _ h
/-- The store of a whole value into the newest block. -/
theorem wpList_store_new {ops : Array Oper} {rest : List Oper} {o : Oper} {a : Act} {W : World} {Q : Exit → Act → World → Prop} {old : Array Value} {t : TypeId} (hgd : o.guard = none) (ty : TypeId) (x y : Operand) (ho : o.op = .store ty x y)
    (cells : Array Value) (hx : a.eval x = .pointer (some ⟨W.heap.size, 0, none⟩)) (hy : a.eval y = .agg cells)
    (hi : (P.info? ty).map (·.size) = some cells.size) (hs : old.size = cells.size) (h1 : ∀ v ∈ cells.toList, v.oneCell' = true)
    (h : wpList P ops Q rest (a.put o.dst undef) (W.alloc (.cells cells t))) : wpList P ops Q (o :: rest) a (W.alloc (.cells old t)) := by
  refine wpList_store_at hgd ty x y ho W.heap.size 0 cells hx hy t old (heap_alloc_new W _) hi (by omega) h1 ?_
  rw [alloc_setRow]
  have : (old.toList.take 0 ++ cells.toList ++ old.toList.drop (0 + cells.size)).toArray = cells := by
    rw [List.drop_of_length_le (by simp [hs])]; simp
  rw [this]
  exact h
theorem wpList_alloc_zero {ops : Array Oper} {rest : List Oper} {o : Oper} {a : Act} {w : World} {Q : Exit → Act → World → Prop} (hgd : o.guard = none) (ty : TypeId) (ho : o.op = .alloc ty)
    (z : Array Value) (hz : (P.info? ty).map (·.zero) = some (some (.agg z)))
    (h : wpList P ops Q rest (a.put o.dst (.pointer (some ⟨w.heap.size, 0, none⟩))) (w.alloc (.cells z ty))) : wpList P ops Q (o :: rest) a w :=
  wpList_plain hgd fun _ hK => by
    obtain ⟨i, hi, hz'⟩ := Option.map_eq_some_iff.1 hz
    unfold Oper.wp execOp
    simp only [ho, Instr.alloc, zeroValue, typeInfo, Sem.run_bind, run_program, Result.andThen_ok, hi, hz', Sem.run_pure, newVar, newRow, Value.cells]
    exact hK _ _ h
theorem madeCells_same (v : Value) (m N : Nat) (hm : 0 < m) : madeCells (Array.replicate m v) N = Array.replicate N v := by
  apply Array.ext
  · simp [madeCells]
  · intro i h1 h2
    simp only [madeCells, Array.getElem_map, Array.getElem_range, Array.getElem_replicate]
    have hlt : i % m < m := Nat.mod_lt _ hm
    simp [hlt]
/-- make([]T, n), T's zero being one value many times. -/
theorem run_make_same (t e : TypeId) (v : Value) (m bytes : Nat) (ht : P.underlying t = some (.slice e)) (hi : (P.info? e).map (fun i => (i.zero.map Value.cells, i.size, i.bytes)) = some (some (Array.replicate m v), m, bytes)) (hm : 0 < m)
    (n : Nat) (hn : bytes * n ≤ 281474976710656) (h63 : n ≤ 9223372036854775807) (W : World) :
    (Instr.makeSlice t (.int .i64 (n : Int)) (.int .i64 (n : Int))).run P W = .ok (.slice (some ⟨W.heap.size, 0, none⟩) n n) (W.alloc (.cells (Array.replicate (n * m) v) e)) := by
  obtain ⟨i, hi', hz⟩ := Option.map_eq_some_iff.1 hi
  simp only [Prod.mk.injEq] at hz
  obtain ⟨hz0, hz1, hz2⟩ := hz
  obtain ⟨z, hz3, hz4⟩ := Option.map_eq_some_iff.1 hz0
  have hb' : (i.bytes : Int) * (n : Int) ≤ 281474976710656 := by
    rw [hz2]
    have h : ((bytes * n : Nat) : Int) ≤ 281474976710656 := by omega
    rwa [Int.natCast_mul] at h
  have hr := run_make (P := P) W t e i z ht hi' hz3 .i64 .i64 n n (by omega) (Int.le_refl _) hb' (by omega)
  rw [hr, hz4, hz1, Int.toNat_natCast, madeCells_same v m _ hm]
theorem wp_still_tail {id : Nat} {Q : Exit → Act → World → Prop} {a : Act} {w : World} {l : List Oper} (n : Nat) (hm : P.follows .mixedOrders = true) (hB : Region.lexTailB .any l.toArray n = true)
    (h : wpStill P l.toArray w.drew (fun a' => wpList P l.toArray Q (l.drop n) a' w.drew) (l.take n) a) : (Code.region id l.toArray true).wp P Q a w := wp_region_still_tail n hm hB h
/-- A slice literal of one element that is an aggregate. -/
theorem wp_buildOne {o : Oper} {a : Act} {w : World} {K : Act → World → Prop} {Q : Exit → Act → World → Prop} (t e : TypeId) (x : Operand) (ho : o.op = .buildSlice t 1 #[(0, x)])
    (cells : Array Value) (hx : a.eval x = .agg cells) (n : Nat) (hu : P.underlying t = some (.slice e)) (hi : (P.info? e).map (fun i => (i.zero.map (fun z => z.cells.size), i.size)) = some (some n, n)) (hn : 0 < n) (hn2 : n ≤ 16777216) (hc : cells.size = n)
    (h : K (a.put o.dst (.slice (some ⟨w.heap.size, 0, none⟩) 1 1)) (w.alloc (.cells cells e))) : o.wp P a w K Q := by
  obtain ⟨ie, hie, hz⟩ := Option.map_eq_some_iff.1 hi
  simp only [Prod.mk.injEq] at hz
  obtain ⟨hz0, hz1⟩ := hz
  obtain ⟨z, hz2, hz3⟩ := Option.map_eq_some_iff.1 hz0
  refine wp_buildSlice t e 1 #[(0, x)] ho cells ie z hu hie hz2 (by omega) (by omega) ?_ h
  have e1 : (#[(0, x)].map fun (i, x) => (i, a.eval x)).toList = (([Value.agg cells]).zipIdx 0).map fun x => (x.2, x.1) := by
    simp [hx]
  rw [e1, hz1]
  have := Great.fill_whole hn [Value.agg cells] ((Array.range (1 * n)).map (z.cells[· % z.cells.size]!)) (by simp [Value.cells, hc]) (by simp)
  rw [this]
  simp [Value.cells]
/-- A load of an aggregate, as the bare operation. -/
theorem exec_load_at {ρ : Operand → Value} {o : Oper} {w : World} (ty : TypeId) (x : Operand) (ho : o.op = .load ty x)
    (g off : Nat) (hx : ρ x = .pointer (some ⟨g, off, none⟩)) (t : TypeId) (cs : Array Value) (fr : Nat × Nat) (d : TypeDesc) (seg : List Value) (hg : w.heap[g]? = some (.cells cs t fr))
    (hu : P.underlying ty = some d) (hd : (match d with | .struct _ | .array _ _ => true | _ => false) = true) (hi : (P.info? ty).map (·.size) = some seg.length)
    (hseg : ∀ j v, seg[j]? = some v → cs[off + j]? = some v) : (execOp ρ o).run P w = .ok (.value (.agg seg.toArray)) w := by
  unfold execOp
  simp only [ho, hx, Sem.run_bind, run_load_at t cs fr d seg hg hu hd hi hseg, Result.andThen_ok, Sem.run_pure]
theorem wp_append_at (w : World) {o : Oper} {a : Act} {K : Act → World → Prop} {Q : Exit → Act → World → Prop} (s x : Operand) (t : TypeId)
    (ho : o.op = .call { callee := .builtin .append, args := #[s, x], argTypes := #[t, t] })
    (base : Nat) (e : TypeId) (i : TypeInfo) (z : Value) (size bytes : Nat) (ht : P.underlying t = some (.slice e)) (hi : P.info? e = some i) (hz : i.zero = some z)
    (hsize : i.size = size) (hby : i.bytes = bytes) (hzs : z.cells.size = size) (hsz : 0 < size)
    (v : Value) (n : Nat) (xs : List Value) (hs : a.eval s = v) (hown : w.ownsRow base e size v n xs)
    (ad : Addr) (m c : Nat) (news : List Value) (hx : a.eval x = .slice (some ad) m c) (hl : news.length = m * size) (hnews : ∀ j u, news[j]? = some u → w.cell? (ad.add j) = some u) (h1 : ∀ u ∈ news, u.oneCell' = true)
    (h63 : n + m ≤ maxLen) (hbytes : (n + m) * bytes ≤ 140737488355328) (hbase : base ≤ w.heap.size)
    (h : ∀ v' w', w'.ownsRow base e size v' (n + m) (xs ++ news) → w.grownBy w' v.ownBlock → (v' = .slice none 0 0 ↔ v = .slice none 0 0 ∧ m = 0) → (v'.ownBlock = v.ownBlock ∨ v'.ownBlock = some w.heap.size) → K (a.put o.dst v') w') : o.wp P a w K Q := by
  obtain ⟨v', w', hr, h2, h3, h4, h5⟩ := run_append_own_at (P := P) w base t o.type e i z size bytes ht hi hz hsize hby hzs hsz v n xs hown ad m c news hl hnews h1 h63 hbytes hbase
  unfold Oper.wp execOp
  simp only [ho, resolve, invoke, builtin, Sem.run_bind, Sem.run_pure, Result.andThen_ok, List.map_toArray, List.map_cons, List.map_nil, hs, hx, hr]
  exact h v' w' h2 h3 h4 h5
end
end Go.Proofs.YtbdhicjebeoakaaDoor
