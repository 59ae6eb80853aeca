/- sector.Read. -/
import Derived.Test.YtbdhicjebeoakaaDoorSec5
import Derived.Laws.ResultCell
import Derived.Laws.Rows
set_option linter.unusedVariables false
set_option linter.unusedSimpArgs false
namespace Go.Proofs.YtbdhicjebeoakaaDoor
open Go.RowKit

theorem ext_sub (s : List UInt8) (a b : Nat) : (⟨s.toArray⟩ : ByteArray).extract a b = ⟨(sub s a b).toArray⟩ := by
  apply sx
  rw [ByteArray.data_extract]
  simp [sub, List.drop_take]
def z6 : Array Value := #[.int .u64 0, .int .i64 0, .int .i64 0, .int .i64 0, .int .i64 0, .string ⟨#[]⟩]
theorem ret_cell {P : Program} {fn : Func} {R : Ending → World → Prop} {a : Act} {w : World} {p u : Tmp} {ty : TypeId} (h : fn.results = #[.cell p ty, .tmp u]) (g : Nat) (t : TypeId) (cs : Array Value) (fr : Nat × Nat) (d : TypeDesc)
    (hp : a.tmps.getD p undef = .pointer (some ⟨g, 0, none⟩)) (hg : w.heap[g]? = some (.cells cs t fr))
    (hu : P.underlying ty = some d) (hd : (match d with | .struct _ | .array _ _ => true | _ => false) = true) (hi : (P.info? ty).map (·.size) = some cs.size) (hdf : a.defers = [])
    (hR : R (.returned (.tuple #[.agg cs, a.tmps.getD u undef])) w) : bodyPost P fn R .ret a w := by
  refine bodyPost_ret (v := .tuple #[.agg cs, a.tmps.getD u undef]) ?_ hdf hR
  rw [results_cell_tmp h, hp]
  simp [asAddr, run_loadVar_row w g t ty cs fr d hg hu hd hi]
theorem wpHead_skip {P : Program} {ops : Array Oper} {Q : Exit → Act → World → Prop} {S : World → Prop} {L : Act → World → Prop} {o : Oper} {r : List Oper} {m : List Bool} {a : Act} {w : World} (hg : Region.wanted o (yielded ops a.tmps) = false)
    (h : wpHead P ops Q S L r m (a.put o.dst undef) w) : wpHead P ops Q S L (o :: r) (true :: m) a w := by
  unfold wpHead
  exact ⟨undef, .inr ⟨hg, rfl⟩, h⟩
set_option maxRecDepth 20000 in
theorem sread_len (s : List UInt8) (w : World) (h : s.length ≠ 64) (hl : s.length ≤ 9223372036854775807) :
    Calls Tryd.prog 17 #[.string ⟨s.toArray⟩] w fun e w' => e = .returned (.tuple #[.agg z6, .int .i64 3]) ∧ Below w.heap.size w w' := by
  have hsz : (⟨s.toArray⟩ : ByteArray).size = s.length := by simp [ByteArray.size]
  have hne : ((s.length : Int) != 64) = true := by simp; omega
  clear h
  go_enter Tryd.func17, Tryd.ntmps17
  go_wp2_with fail
  refine wp_head_tail 14 [false, false, false, false, true, true, false, false, false, false, false, false, false, false] (fun _ => True) (by kernel_rfl) (by kernel_rfl) (fun _ _ d _ _ h => by cases d <;> exact h) trivial ?_
  simp only [List.take_succ_cons, List.take_zero, List.drop_succ_cons, List.drop_zero]
  iterate 4 (refine wpHead_step (fun K hK => ?_) trivial; go_simp; refine hK _ _ trivial ?_; clear hK K)
  refine wpHead_skip rfl ?_
  simp only [Act.put, List.setIfInBounds_toArray, List.set_cons_succ, List.set_cons_zero]
  refine wpHead_skip rfl ?_
  simp only [Act.put, List.setIfInBounds_toArray, List.set_cons_succ, List.set_cons_zero]
  iterate 8 (refine wpHead_step (fun K hK => ?_) trivial; go_simp; refine hK _ _ trivial ?_; clear hK K)
  refine wpHead_nil ?_
  go_wp2_with fail
  refine ret_cell rfl w.heap.size 24 z6 (0, 0) _ rfl (heap_alloc_new w _) Tryd.underlying24 rfl (by kernel_rfl) rfl ?_
  exact ⟨rfl, ((Below.refl _ _).alloc (Nat.le_refl _) _).drew⟩
set_option maxRecDepth 20000 in
theorem sread_stamp (s : List UInt8) (w : World) (h : s.length = 64) (h8 : sub s 0 8 ≠ s.drop 56) :
    Calls Tryd.prog 17 #[.string ⟨s.toArray⟩] w fun e w' => e = .returned (.tuple #[.agg z6, .int .i64 3]) ∧ Below w.heap.size w w' := by
  have hsz : (⟨s.toArray⟩ : ByteArray).size = 64 := by simp [ByteArray.size, h]
  obtain ⟨b, hb⟩ : ∃ b : ByteArray, b = ⟨s.toArray⟩ := ⟨_, rfl⟩
  obtain ⟨x, hx⟩ : ∃ x : ByteArray, x = b.extract 0 8 := ⟨_, rfl⟩
  obtain ⟨y, hy⟩ : ∃ y : ByteArray, y = b.extract 56 64 := ⟨_, rfl⟩
  rw [← hb] at hsz ⊢
  have hxy : (x.toList == y.toList) = false := by
    rw [beq_eq_false_iff_ne, ByteArray.toList_eq, ByteArray.toList_eq, hx, hy, hb, ext_sub, ext_sub]
    intro e
    apply h8
    rw [← sub_to_end s 56 64 h]
    simpa using e
  have hx1 := hx.symm
  have hy1 := hy.symm
  clear hb hx hy
  go_enter Tryd.func17, Tryd.ntmps17
  go_wp2_with fail
  refine wp_head_tail 14 [false, false, false, false, true, true, false, false, false, false, false, false, false, false] (fun _ => True) (by kernel_rfl) (by kernel_rfl) (fun _ _ d _ _ h => by cases d <;> exact h) trivial ?_
  simp only [List.take_succ_cons, List.take_zero, List.drop_succ_cons, List.drop_zero]
  iterate 4 (refine wpHead_step (fun K hK => ?_) trivial; go_simp; refine hK _ _ trivial ?_; clear hK K)
  refine wpHead_take' (.string b) rfl (fun W hW => by go_simp) ?_
  simp only [Act.put, List.setIfInBounds_toArray, List.set_cons_succ, List.set_cons_zero]
  refine wpHead_take' (.string x) rfl (fun W hW => by go_simp) ?_
  simp only [Act.put, List.setIfInBounds_toArray, List.set_cons_succ, List.set_cons_zero]
  iterate 2 (refine wpHead_step (fun K hK => ?_) trivial; go_simp; refine hK _ _ trivial ?_; clear hK K)
  iterate 6 (refine wpHead_step (fun K hK => ?_) trivial; go_simp; refine hK _ _ trivial ?_; clear hK K)
  refine wpHead_nil ?_
  go_wp2_with fail
  refine ret_cell rfl w.heap.size 24 z6 (0, 0) _ rfl (heap_alloc_new w _) Tryd.underlying24 rfl (by kernel_rfl) rfl ?_
  exact ⟨rfl, ((Below.refl _ _).alloc (Nat.le_refl _) _).drew⟩
end Go.Proofs.YtbdhicjebeoakaaDoor
