/- lockageref04.Print. -/
import Derived.Test.YtbdhicjebeoakaaDoorSec3
import Derived.Test.YtbdhicjebeoakaaDoorTree
set_option linter.unusedVariables false
set_option linter.unusedSimpArgs false
namespace Go.Proofs.YtbdhicjebeoakaaDoor
open Go.RowKit

theorem number8 (n : Nat) (w : World) (hn : n < 18446744073709551616) : Calls Tryd.prog 50 #[.int .u64 (n : Int), .int .i64 8] w fun e w' => e = .returned (.string ⟨(beL 8 n).toArray⟩) ∧ Below w.heap.size w w' := number_any n 8 w (by omega) (by omega) hn
theorem number4 (n : Nat) (w : World) (hn : n < 18446744073709551616) : Calls Tryd.prog 50 #[.int .u64 (n : Int), .int .i64 4] w fun e w' => e = .returned (.string ⟨(beL 4 n).toArray⟩) ∧ Below w.heap.size w w' := number_any n 4 w (by omega) (by omega) hn
theorem number2 (n : Nat) (w : World) (hn : n < 18446744073709551616) : Calls Tryd.prog 50 #[.int .u64 (n : Int), .int .i64 2] w fun e w' => e = .returned (.string ⟨(beL 2 n).toArray⟩) ∧ Below w.heap.size w w' := number_any n 2 w (by omega) (by omega) hn
theorem number1 (n : Nat) (w : World) (hn : n < 18446744073709551616) : Calls Tryd.prog 50 #[.int .u64 (n : Int), .int .i64 1] w fun e w' => e = .returned (.string ⟨(beL 1 n).toArray⟩) ∧ Below w.heap.size w w' := number_any n 1 w (by omega) (by omega) hn
theorem make_zeros2 (n : Nat) (hn : n ≤ 4096) (W : World) :
    (Instr.makeSlice 52 (.int .i64 (n : Int)) (.int .i64 (n : Int))).run Tryd.prog W = .ok (.slice (some ⟨W.heap.size, 0, none⟩) n n) (W.alloc (.cells (Array.replicate n (.int .u8 0)) 5)) := by
  have := run_make_same (P := Tryd.prog) 52 5 (.int .u8 0) 1 1 (by kernel_rfl) (by kernel_rfl) (by decide) n (by omega) (by omega) W
  simpa using this
def zsL (n : Nat) : List UInt8 := List.replicate n 0
theorem zsL_length (n : Nat) : (zsL n).length = n := by simp [zsL]
theorem conv_zeros_at2 (n : Nat) (W : World) (k : Nat) (h : W.heap[k]? = some (.cells (Array.replicate n (.int .u8 0)) 5 (0, 0))) :
    (convert 52 9 (.slice (some ⟨k, 0, none⟩) n n)).run Tryd.prog W = .ok (.string ⟨(zsL n).toArray⟩) W := by
  have := run_convert_bytes_back (P := Tryd.prog) W 52 9 5 ⟨k, 0, none⟩ n (List.replicate n (0 : UInt8)) (by kernel_rfl) (by kernel_rfl) (by kernel_rfl) (fun j hj => by
    have hj' : j < n := by simpa using hj
    rw [add_at, block_cell h, Nat.zero_add, Array.getElem?_eq_getElem (by simpa using hj')]
    simp)
  rwa [List.length_replicate] at this
theorem str_append (a b : List UInt8) : (⟨a.toArray⟩ : ByteArray) ++ ⟨b.toArray⟩ = ⟨(a ++ b).toArray⟩ := by
  have h : ∀ x y : ByteArray, x.data.toList = y.data.toList → x = y := fun x y h => by cases x; cases y; simp at h; simp [h]
  apply h
  rw [ByteArray.data_append, Array.toList_append]
def rpCells (st ge no ix to : Nat) (da : List UInt8) : Array Value := #[.int .u64 (st : Int), .int .i64 (ge : Int), .int .i64 (no : Int), .int .i64 (ix : Int), .int .i64 (to : Int), .string ⟨da.toArray⟩]
theorem rp_cells {W : World} {pb st ge no ix to : Nat} {da : List UInt8} {t : TypeId} (h : W.heap[pb]? = some (.cells (rpCells st ge no ix to da) t (0, 0))) : W.cell? ⟨pb, 0, none⟩ = some (.int .u64 (st : Int)) ∧ W.cell? ⟨pb, 1, none⟩ = some (.int .i64 (ge : Int)) ∧ W.cell? ⟨pb, 2, none⟩ = some (.int .i64 (no : Int)) ∧
    W.cell? ⟨pb, 3, none⟩ = some (.int .i64 (ix : Int)) ∧ W.cell? ⟨pb, 4, none⟩ = some (.int .i64 (to : Int)) ∧ W.cell? ⟨pb, 5, none⟩ = some (.string ⟨da.toArray⟩) := by
  have := block_cell h
  exact ⟨this 0, this 1, this 2, this 3, this 4, this 5⟩
set_option maxRecDepth 100000 in
set_option maxHeartbeats 4000000 in
theorem rprint_ok (st ge no ix to : Nat) (da : List UInt8) (w : World) (hr : Pc.right ⟨st, ge, no, ix, to, da⟩ = true) (hst : st < 18446744073709551616) :
    Calls Tryd.prog 16 #[.agg #[.int .u64 (st : Int), .int .i64 (ge : Int), .int .i64 (no : Int), .int .i64 (ix : Int), .int .i64 (to : Int), .string ⟨da.toArray⟩]] w fun e w' =>
      e = .returned (.string ⟨(Pc.print ⟨st, ge, no, ix, to, da⟩).toArray⟩) ∧ Below w.heap.size w w' := by
  have hri := (Pc.right_iff _).1 hr
  simp only at hri
  have hge2 : ge < 18446744073709551616 := by omega
  have hno2 : no < 18446744073709551616 := by omega
  have hix2 : ix < 18446744073709551616 := by omega
  have hto2 : to < 18446744073709551616 := by omega
  have hda2 : da.length < 18446744073709551616 := by omega
  have hge : IntKind.u64.wrap (ge : Int) = (ge : Int) := by simp [IntKind.wrap, IntKind.bits, IntKind.signed]; omega
  have hno : IntKind.u64.wrap (no : Int) = (no : Int) := by simp [IntKind.wrap, IntKind.bits, IntKind.signed]; omega
  have hix : IntKind.u64.wrap (ix : Int) = (ix : Int) := by simp [IntKind.wrap, IntKind.bits, IntKind.signed]; omega
  have hto : IntKind.u64.wrap (to : Int) = (to : Int) := by simp [IntKind.wrap, IntKind.bits, IntKind.signed]; omega
  have hda : IntKind.u64.wrap (da.length : Int) = (da.length : Int) := by simp [IntKind.wrap, IntKind.bits, IntKind.signed]; omega
  have hsz : (⟨da.toArray⟩ : ByteArray).size = da.length := by simp [ByteArray.size]
  obtain ⟨z, hz⟩ : ∃ z : Nat, z = 37 - da.length := ⟨_, rfl⟩
  have hz2 : (37 : Int) - (da.length : Int) = (z : Int) := by omega
  have mkz : ∀ W : World, (Instr.makeSlice 52 (.int .i64 (z : Int)) (.int .i64 (z : Int))).run Tryd.prog W = .ok (.slice (some ⟨W.heap.size, 0, none⟩) z z) (W.alloc (.cells (Array.replicate z (.int .u8 0)) 5)) := make_zeros2 z (by omega)
  obtain ⟨X7, hX7, t7⟩ : ∃ X : List UInt8, X = beL 8 st ++ beL 4 ge ∧ (⟨(beL 8 st).toArray⟩ : ByteArray) ++ ⟨(beL 4 ge).toArray⟩ = ⟨X.toArray⟩ := ⟨_, rfl, str_append _ _⟩
  obtain ⟨X12, hX12, t12⟩ : ∃ X : List UInt8, X = X7 ++ beL 2 no ∧ (⟨X7.toArray⟩ : ByteArray) ++ ⟨(beL 2 no).toArray⟩ = ⟨X.toArray⟩ := ⟨_, rfl, str_append _ _⟩
  obtain ⟨X17, hX17, t17⟩ : ∃ X : List UInt8, X = X12 ++ beL 2 ix ∧ (⟨X12.toArray⟩ : ByteArray) ++ ⟨(beL 2 ix).toArray⟩ = ⟨X.toArray⟩ := ⟨_, rfl, str_append _ _⟩
  obtain ⟨X22, hX22, t22⟩ : ∃ X : List UInt8, X = X17 ++ beL 2 to ∧ (⟨X17.toArray⟩ : ByteArray) ++ ⟨(beL 2 to).toArray⟩ = ⟨X.toArray⟩ := ⟨_, rfl, str_append _ _⟩
  obtain ⟨X28, hX28, t28⟩ : ∃ X : List UInt8, X = X22 ++ beL 1 da.length ∧ (⟨X22.toArray⟩ : ByteArray) ++ ⟨(beL 1 da.length).toArray⟩ = ⟨X.toArray⟩ := ⟨_, rfl, str_append _ _⟩
  obtain ⟨X31, hX31, t31⟩ : ∃ X : List UInt8, X = X28 ++ da ∧ (⟨X28.toArray⟩ : ByteArray) ++ ⟨da.toArray⟩ = ⟨X.toArray⟩ := ⟨_, rfl, str_append _ _⟩
  obtain ⟨X38, hX38, t38⟩ : ∃ X : List UInt8, X = X31 ++ zsL z ∧ (⟨X31.toArray⟩ : ByteArray) ++ ⟨(zsL z).toArray⟩ = ⟨X.toArray⟩ := ⟨_, rfl, str_append _ _⟩
  obtain ⟨X42, hX42, t42⟩ : ∃ X : List UInt8, X = X38 ++ beL 8 st ∧ (⟨X38.toArray⟩ : ByteArray) ++ ⟨(beL 8 st).toArray⟩ = ⟨X.toArray⟩ := ⟨_, rfl, str_append _ _⟩
  have e7 : X7.length = 12 := by rw [hX7]; simp [beL_length]
  have e12 : X12.length = 14 := by rw [hX12]; simp [beL_length, e7]
  have e17 : X17.length = 16 := by rw [hX17]; simp [beL_length, e12]
  have e22 : X22.length = 18 := by rw [hX22]; simp [beL_length, e17]
  have e28 : X28.length = 19 := by rw [hX28]; simp [beL_length, e22]
  have e31 : X31.length = 19 + da.length := by rw [hX31]; simp [e28]
  have e38 : X38.length = 56 := by rw [hX38]; simp [e31, zsL_length]; omega
  have L7 : (beL 8 st).length + (beL 4 ge).length ≤ 9223372036854775807 := by rw [beL_length, beL_length]; omega
  have L12 : X7.length + (beL 2 no).length ≤ 9223372036854775807 := by rw [beL_length]; omega
  have L17 : X12.length + (beL 2 ix).length ≤ 9223372036854775807 := by rw [beL_length]; omega
  have L22 : X17.length + (beL 2 to).length ≤ 9223372036854775807 := by rw [beL_length]; omega
  have L28 : X22.length + (beL 1 da.length).length ≤ 9223372036854775807 := by rw [beL_length]; omega
  have L31 : X28.length + da.length ≤ 9223372036854775807 := by omega
  have L38 : X31.length + (zsL z).length ≤ 9223372036854775807 := by rw [zsL_length]; omega
  have L42 : X38.length + (beL 8 st).length ≤ 9223372036854775807 := by rw [beL_length]; omega
  have hzw : IntKind.i64.wrap (z : Int) = (z : Int) := by simp [IntKind.wrap, IntKind.bits, IntKind.signed]; omega
  clear e7 e12 e17 e22 e28 e31 e38
  have HX : Hid (X42 = Pc.print ⟨st, ge, no, ix, to, da⟩) := Lib.hid (by subst hX42 hX38 hX31 hX28 hX22 hX17 hX12 hX7 hz; rfl)
  clear hX7 hX12 hX17 hX22 hX28 hX31 hX38 hX42 hz hr hri
  go_enter Tryd.func16, Tryd.ntmps16
  go_wp2_with fail
  have hS : (w.alloc (.cells (rpCells st ge no ix to da) 30)).drew.heap[w.heap.size]? = some (.cells (rpCells st ge no ix to da) 30 (0, 0)) := heap_alloc_new w _
  have hB : Below w.heap.size w (w.alloc (.cells (rpCells st ge no ix to da) 30)).drew := ((Below.refl _ _).alloc (Nat.le_refl _) _).drew
  have hpb : ∃ pb, pb = w.heap.size := ⟨_, rfl⟩
  refine wp_head_tr 43 (.take 0 (.take 1 (.take 3 (.take 4 (.take 5 (.take 8 (.take 9 (.take 10 (.take 13 (.take 14 (.take 15 (.take 18 (.take 19 (.take 20 (.take 23 (.take 24 (.take 25 (.take 26 (.take 29 (.take 30 (.take 32 (.take 33 (.take 34 (.take 35 (.take 39 (.take 40 (.two 2 (.two 6 (.take 7 (.two 11 (.take 12 (.two 16 (.take 17 (.two 21 (.take 22 (.two 27 (.take 28 (.take 31 (.two 36 (.take 37 (.take 38 (.one 41 (.take 42 (.done))))) 41 (.one 36 (.take 37 (.take 38 (.take 42 (.done)))))))) 36 (.take 37 (.one 27 (.take 28 (.take 31 (.take 38 (.one 41 (.take 42 (.done)))))))))) 36 (.take 37 (.one 21 (.take 22 (.one 27 (.take 28 (.take 31 (.take 38 (.one 41 (.take 42 (.done)))))))))))) 36 (.take 37 (.one 16 (.take 17 (.one 21 (.take 22 (.one 27 (.take 28 (.take 31 (.take 38 (.one 41 (.take 42 (.done)))))))))))))) 36 (.take 37 (.one 11 (.take 12 (.one 16 (.take 17 (.one 21 (.take 22 (.one 27 (.take 28 (.take 31 (.take 38 (.one 41 (.take 42 (.done)))))))))))))))) 36 (.take 37 (.one 6 (.take 7 (.one 11 (.take 12 (.one 16 (.take 17 (.one 21 (.take 22 (.one 27 (.take 28 (.take 31 (.take 38 (.one 41 (.take 42 (.done))))))))))))))))) 36 (.take 37 (.one 2 (.one 6 (.take 7 (.one 11 (.take 12 (.one 16 (.take 17 (.one 21 (.take 22 (.one 27 (.take 28 (.take 31 (.take 38 (.one 41 (.take 42 (.done)))))))))))))))))))))))))))))))))))))))))))) (fun W => W.heap[w.heap.size]? = some (.cells (rpCells st ge no ix to da) 30 (0, 0))) (by kernel_rfl) (by kernel_rfl) (fun _ _ d _ _ h => by cases d <;> exact h) hS ?_
  simp only [Tr.on, List.getD_cons_succ, List.getD_cons_zero, List.drop_succ_cons, List.drop_zero]
  change wpTr _ _ _ _ _ _ _ (w.alloc (.cells (rpCells st ge no ix to da) 30)).drew
  generalize (w.alloc (.cells (rpCells st ge no ix to da) 30)).drew = c0 at hS hB ⊢
  refine wpTr_take (.pointer (some ⟨w.heap.size, 0, none⟩)) rfl (fun W hW => by clear hW; go_simp) ?_
  simp only [Act.put, List.setIfInBounds_toArray, List.set_cons_succ, List.set_cons_zero]
  refine wpTr_take (.int .u64 (st : Int)) rfl (fun W hW => by obtain ⟨k0, k1, k2, k3, k4, k5⟩ := rp_cells hW; clear hW; go_simp) ?_
  simp only [Act.put, List.setIfInBounds_toArray, List.set_cons_succ, List.set_cons_zero]
  refine wpTr_take (.pointer (some ⟨w.heap.size, 1, none⟩)) rfl (fun W hW => by clear hW; go_simp) ?_
  simp only [Act.put, List.setIfInBounds_toArray, List.set_cons_succ, List.set_cons_zero]
  refine wpTr_take (.int .i64 (ge : Int)) rfl (fun W hW => by obtain ⟨k0, k1, k2, k3, k4, k5⟩ := rp_cells hW; clear hW; go_simp) ?_
  simp only [Act.put, List.setIfInBounds_toArray, List.set_cons_succ, List.set_cons_zero]
  refine wpTr_take (.int .u64 (ge : Int)) rfl (fun W hW => by clear hW; go_simp) ?_
  simp only [Act.put, List.setIfInBounds_toArray, List.set_cons_succ, List.set_cons_zero]
  refine wpTr_take (.pointer (some ⟨w.heap.size, 2, none⟩)) rfl (fun W hW => by clear hW; go_simp) ?_
  simp only [Act.put, List.setIfInBounds_toArray, List.set_cons_succ, List.set_cons_zero]
  refine wpTr_take (.int .i64 (no : Int)) rfl (fun W hW => by obtain ⟨k0, k1, k2, k3, k4, k5⟩ := rp_cells hW; clear hW; go_simp) ?_
  simp only [Act.put, List.setIfInBounds_toArray, List.set_cons_succ, List.set_cons_zero]
  refine wpTr_take (.int .u64 (no : Int)) rfl (fun W hW => by clear hW; go_simp) ?_
  simp only [Act.put, List.setIfInBounds_toArray, List.set_cons_succ, List.set_cons_zero]
  refine wpTr_take (.pointer (some ⟨w.heap.size, 3, none⟩)) rfl (fun W hW => by clear hW; go_simp) ?_
  simp only [Act.put, List.setIfInBounds_toArray, List.set_cons_succ, List.set_cons_zero]
  refine wpTr_take (.int .i64 (ix : Int)) rfl (fun W hW => by obtain ⟨k0, k1, k2, k3, k4, k5⟩ := rp_cells hW; clear hW; go_simp) ?_
  simp only [Act.put, List.setIfInBounds_toArray, List.set_cons_succ, List.set_cons_zero]
  refine wpTr_take (.int .u64 (ix : Int)) rfl (fun W hW => by clear hW; go_simp) ?_
  simp only [Act.put, List.setIfInBounds_toArray, List.set_cons_succ, List.set_cons_zero]
  refine wpTr_take (.pointer (some ⟨w.heap.size, 4, none⟩)) rfl (fun W hW => by clear hW; go_simp) ?_
  simp only [Act.put, List.setIfInBounds_toArray, List.set_cons_succ, List.set_cons_zero]
  refine wpTr_take (.int .i64 (to : Int)) rfl (fun W hW => by obtain ⟨k0, k1, k2, k3, k4, k5⟩ := rp_cells hW; clear hW; go_simp) ?_
  simp only [Act.put, List.setIfInBounds_toArray, List.set_cons_succ, List.set_cons_zero]
  refine wpTr_take (.int .u64 (to : Int)) rfl (fun W hW => by clear hW; go_simp) ?_
  simp only [Act.put, List.setIfInBounds_toArray, List.set_cons_succ, List.set_cons_zero]
  refine wpTr_take (.pointer (some ⟨w.heap.size, 5, none⟩)) rfl (fun W hW => by clear hW; go_simp) ?_
  simp only [Act.put, List.setIfInBounds_toArray, List.set_cons_succ, List.set_cons_zero]
  refine wpTr_take (.string ⟨da.toArray⟩) rfl (fun W hW => by obtain ⟨k0, k1, k2, k3, k4, k5⟩ := rp_cells hW; clear hW; go_simp) ?_
  simp only [Act.put, List.setIfInBounds_toArray, List.set_cons_succ, List.set_cons_zero]
  refine wpTr_take (.int .i64 (da.length : Int)) rfl (fun W hW => by clear hW; go_simp) ?_
  simp only [Act.put, List.setIfInBounds_toArray, List.set_cons_succ, List.set_cons_zero]
  refine wpTr_take (.int .u64 (da.length : Int)) rfl (fun W hW => by clear hW; go_simp) ?_
  simp only [Act.put, List.setIfInBounds_toArray, List.set_cons_succ, List.set_cons_zero]
  refine wpTr_take (.pointer (some ⟨w.heap.size, 5, none⟩)) rfl (fun W hW => by clear hW; go_simp) ?_
  simp only [Act.put, List.setIfInBounds_toArray, List.set_cons_succ, List.set_cons_zero]
  refine wpTr_take (.string ⟨da.toArray⟩) rfl (fun W hW => by obtain ⟨k0, k1, k2, k3, k4, k5⟩ := rp_cells hW; clear hW; go_simp) ?_
  simp only [Act.put, List.setIfInBounds_toArray, List.set_cons_succ, List.set_cons_zero]
  refine wpTr_take (.pointer (some ⟨w.heap.size, 5, none⟩)) rfl (fun W hW => by clear hW; go_simp) ?_
  simp only [Act.put, List.setIfInBounds_toArray, List.set_cons_succ, List.set_cons_zero]
  refine wpTr_take (.string ⟨da.toArray⟩) rfl (fun W hW => by obtain ⟨k0, k1, k2, k3, k4, k5⟩ := rp_cells hW; clear hW; go_simp) ?_
  simp only [Act.put, List.setIfInBounds_toArray, List.set_cons_succ, List.set_cons_zero]
  refine wpTr_take (.int .i64 (da.length : Int)) rfl (fun W hW => by clear hW; go_simp) ?_
  simp only [Act.put, List.setIfInBounds_toArray, List.set_cons_succ, List.set_cons_zero]
  refine wpTr_take (.int .i64 (z : Int)) rfl (fun W hW => by clear hW; go_simp) ?_
  simp only [Act.put, List.setIfInBounds_toArray, List.set_cons_succ, List.set_cons_zero]
  refine wpTr_take (.pointer (some ⟨w.heap.size, 0, none⟩)) rfl (fun W hW => by clear hW; go_simp) ?_
  simp only [Act.put, List.setIfInBounds_toArray, List.set_cons_succ, List.set_cons_zero]
  refine wpTr_take (.int .u64 (st : Int)) rfl (fun W hW => by obtain ⟨k0, k1, k2, k3, k4, k5⟩ := rp_cells hW; clear hW; go_simp) ?_
  simp only [Act.put, List.setIfInBounds_toArray, List.set_cons_succ, List.set_cons_zero]
  refine wpTr_two ?_ ?_
  · skip
    refine wpTr_one (fun K hK => ?_)
    refine wpOne_plain rfl ?_
    go_simp
    refine (number8 st _ hst).mono ?_
    rintro e c1 ⟨rfl, hb⟩
    have hS := (hb.block _ (block_lt hS)).trans hS
    have hB := hB.trans (hb.mono hB.size)
    refine hK (fun W => W.heap[w.heap.size]? = some (.cells (rpCells st ge no ix to da) 30 (0, 0))) _ _ (fun _ h => h) hS ?_
    clear hK K hb
    refine wpTr_two ?_ ?_
    · skip
      refine wpTr_one (fun K hK => ?_)
      refine wpOne_plain rfl ?_
      go_simp
      refine (number4 ge _ hge2).mono ?_
      rintro e c2 ⟨rfl, hb⟩
      have hS := (hb.block _ (block_lt hS)).trans hS
      have hB := hB.trans (hb.mono hB.size)
      refine hK (fun W => W.heap[w.heap.size]? = some (.cells (rpCells st ge no ix to da) 30 (0, 0))) _ _ (fun _ h => h) hS ?_
      clear hK K hb
      refine wpTr_take (.string ⟨X7.toArray⟩) rfl (fun W hW => by clear hW; go_simp) ?_
      simp only [Act.put, List.setIfInBounds_toArray, List.set_cons_succ, List.set_cons_zero]
      refine wpTr_two ?_ ?_
      · skip
        refine wpTr_one (fun K hK => ?_)
        refine wpOne_plain rfl ?_
        go_simp
        refine (number2 no _ hno2).mono ?_
        rintro e c3 ⟨rfl, hb⟩
        have hS := (hb.block _ (block_lt hS)).trans hS
        have hB := hB.trans (hb.mono hB.size)
        refine hK (fun W => W.heap[w.heap.size]? = some (.cells (rpCells st ge no ix to da) 30 (0, 0))) _ _ (fun _ h => h) hS ?_
        clear hK K hb
        refine wpTr_take (.string ⟨X12.toArray⟩) rfl (fun W hW => by clear hW; go_simp) ?_
        simp only [Act.put, List.setIfInBounds_toArray, List.set_cons_succ, List.set_cons_zero]
        refine wpTr_two ?_ ?_
        · skip
          refine wpTr_one (fun K hK => ?_)
          refine wpOne_plain rfl ?_
          go_simp
          refine (number2 ix _ hix2).mono ?_
          rintro e c4 ⟨rfl, hb⟩
          have hS := (hb.block _ (block_lt hS)).trans hS
          have hB := hB.trans (hb.mono hB.size)
          refine hK (fun W => W.heap[w.heap.size]? = some (.cells (rpCells st ge no ix to da) 30 (0, 0))) _ _ (fun _ h => h) hS ?_
          clear hK K hb
          refine wpTr_take (.string ⟨X17.toArray⟩) rfl (fun W hW => by clear hW; go_simp) ?_
          simp only [Act.put, List.setIfInBounds_toArray, List.set_cons_succ, List.set_cons_zero]
          refine wpTr_two ?_ ?_
          · skip
            refine wpTr_one (fun K hK => ?_)
            refine wpOne_plain rfl ?_
            go_simp
            refine (number2 to _ hto2).mono ?_
            rintro e c5 ⟨rfl, hb⟩
            have hS := (hb.block _ (block_lt hS)).trans hS
            have hB := hB.trans (hb.mono hB.size)
            refine hK (fun W => W.heap[w.heap.size]? = some (.cells (rpCells st ge no ix to da) 30 (0, 0))) _ _ (fun _ h => h) hS ?_
            clear hK K hb
            refine wpTr_take (.string ⟨X22.toArray⟩) rfl (fun W hW => by clear hW; go_simp) ?_
            simp only [Act.put, List.setIfInBounds_toArray, List.set_cons_succ, List.set_cons_zero]
            refine wpTr_two ?_ ?_
            · skip
              refine wpTr_one (fun K hK => ?_)
              refine wpOne_plain rfl ?_
              go_simp
              refine (number1 da.length _ hda2).mono ?_
              rintro e c6 ⟨rfl, hb⟩
              have hS := (hb.block _ (block_lt hS)).trans hS
              have hB := hB.trans (hb.mono hB.size)
              refine hK (fun W => W.heap[w.heap.size]? = some (.cells (rpCells st ge no ix to da) 30 (0, 0))) _ _ (fun _ h => h) hS ?_
              clear hK K hb
              refine wpTr_take (.string ⟨X28.toArray⟩) rfl (fun W hW => by clear hW; go_simp) ?_
              simp only [Act.put, List.setIfInBounds_toArray, List.set_cons_succ, List.set_cons_zero]
              refine wpTr_take (.string ⟨X31.toArray⟩) rfl (fun W hW => by clear hW; go_simp) ?_
              simp only [Act.put, List.setIfInBounds_toArray, List.set_cons_succ, List.set_cons_zero]
              refine wpTr_two ?_ ?_
              · skip
                refine wpTr_one (fun K hK => ?_)
                refine wpOne_plain rfl ?_
                go_simp
                have hS := And.intro ((Below.heap_alloc c6 (.cells (Array.replicate z (.int .u8 0)) 5) _ (block_lt hS)).trans hS) (heap_alloc_new c6 (.cells (Array.replicate z (.int .u8 0)) 5))
                have hB := hB.alloc hB.size (.cells (Array.replicate z (.int .u8 0)) 5)
                refine hK (fun W => (fun W => W.heap[w.heap.size]? = some (.cells (rpCells st ge no ix to da) 30 (0, 0))) W ∧ W.heap[c6.heap.size]? = some (.cells (Array.replicate z (.int .u8 0)) 5 (0, 0))) _ _ (fun _ h => h.1) hS ?_
                clear hK K
                refine wpTr_take (.string ⟨(zsL z).toArray⟩) rfl (fun W hW => by have cz := conv_zeros_at2 z W _ hW.2; clear hW; go_simp) ?_
                simp only [Act.put, List.setIfInBounds_toArray, List.set_cons_succ, List.set_cons_zero]
                refine wpTr_take (.string ⟨X38.toArray⟩) rfl (fun W hW => by clear hW; go_simp) ?_
                simp only [Act.put, List.setIfInBounds_toArray, List.set_cons_succ, List.set_cons_zero]
                refine wpTr_one (fun K hK => ?_)
                refine wpOne_plain rfl ?_
                go_simp
                refine (number8 st _ hst).mono ?_
                rintro e c8 ⟨rfl, hb⟩
                have hS := And.intro ((hb.block _ (block_lt hS.1)).trans hS.1) ((hb.block _ (block_lt hS.2)).trans hS.2)
                have hB := hB.trans (hb.mono hB.size)
                refine hK (fun W => (fun W => W.heap[w.heap.size]? = some (.cells (rpCells st ge no ix to da) 30 (0, 0))) W ∧ W.heap[c6.heap.size]? = some (.cells (Array.replicate z (.int .u8 0)) 5 (0, 0))) _ _ (fun _ h => h) hS ?_
                clear hK K hb
                refine wpTr_take (.string ⟨X42.toArray⟩) rfl (fun W hW => by clear hW; go_simp) ?_
                simp only [Act.put, List.setIfInBounds_toArray, List.set_cons_succ, List.set_cons_zero]
                refine wpTr_done ?_
                go_wp2_with fail
                go_ret
                exact ⟨by rw [HX.out]; rfl, hB⟩
              · skip
                refine wpTr_one (fun K hK => ?_)
                refine wpOne_plain rfl ?_
                go_simp
                refine (number8 st _ hst).mono ?_
                rintro e c9 ⟨rfl, hb⟩
                have hS := (hb.block _ (block_lt hS)).trans hS
                have hB := hB.trans (hb.mono hB.size)
                refine hK (fun W => W.heap[w.heap.size]? = some (.cells (rpCells st ge no ix to da) 30 (0, 0))) _ _ (fun _ h => h) hS ?_
                clear hK K hb
                refine wpTr_one (fun K hK => ?_)
                refine wpOne_plain rfl ?_
                go_simp
                have hS := And.intro ((Below.heap_alloc c9 (.cells (Array.replicate z (.int .u8 0)) 5) _ (block_lt hS)).trans hS) (heap_alloc_new c9 (.cells (Array.replicate z (.int .u8 0)) 5))
                have hB := hB.alloc hB.size (.cells (Array.replicate z (.int .u8 0)) 5)
                refine hK (fun W => (fun W => W.heap[w.heap.size]? = some (.cells (rpCells st ge no ix to da) 30 (0, 0))) W ∧ W.heap[c9.heap.size]? = some (.cells (Array.replicate z (.int .u8 0)) 5 (0, 0))) _ _ (fun _ h => h.1) hS ?_
                clear hK K
                refine wpTr_take (.string ⟨(zsL z).toArray⟩) rfl (fun W hW => by have cz := conv_zeros_at2 z W _ hW.2; clear hW; go_simp) ?_
                simp only [Act.put, List.setIfInBounds_toArray, List.set_cons_succ, List.set_cons_zero]
                refine wpTr_take (.string ⟨X38.toArray⟩) rfl (fun W hW => by clear hW; go_simp) ?_
                simp only [Act.put, List.setIfInBounds_toArray, List.set_cons_succ, List.set_cons_zero]
                refine wpTr_take (.string ⟨X42.toArray⟩) rfl (fun W hW => by clear hW; go_simp) ?_
                simp only [Act.put, List.setIfInBounds_toArray, List.set_cons_succ, List.set_cons_zero]
                refine wpTr_done ?_
                go_wp2_with fail
                go_ret
                exact ⟨by rw [HX.out]; rfl, hB⟩
            · skip
              refine wpTr_one (fun K hK => ?_)
              refine wpOne_plain rfl ?_
              go_simp
              have hS := And.intro ((Below.heap_alloc c5 (.cells (Array.replicate z (.int .u8 0)) 5) _ (block_lt hS)).trans hS) (heap_alloc_new c5 (.cells (Array.replicate z (.int .u8 0)) 5))
              have hB := hB.alloc hB.size (.cells (Array.replicate z (.int .u8 0)) 5)
              refine hK (fun W => (fun W => W.heap[w.heap.size]? = some (.cells (rpCells st ge no ix to da) 30 (0, 0))) W ∧ W.heap[c5.heap.size]? = some (.cells (Array.replicate z (.int .u8 0)) 5 (0, 0))) _ _ (fun _ h => h.1) hS ?_
              clear hK K
              refine wpTr_take (.string ⟨(zsL z).toArray⟩) rfl (fun W hW => by have cz := conv_zeros_at2 z W _ hW.2; clear hW; go_simp) ?_
              simp only [Act.put, List.setIfInBounds_toArray, List.set_cons_succ, List.set_cons_zero]
              refine wpTr_one (fun K hK => ?_)
              refine wpOne_plain rfl ?_
              go_simp
              refine (number1 da.length _ hda2).mono ?_
              rintro e c12 ⟨rfl, hb⟩
              have hS := And.intro ((hb.block _ (block_lt hS.1)).trans hS.1) ((hb.block _ (block_lt hS.2)).trans hS.2)
              have hB := hB.trans (hb.mono hB.size)
              refine hK (fun W => (fun W => W.heap[w.heap.size]? = some (.cells (rpCells st ge no ix to da) 30 (0, 0))) W ∧ W.heap[c5.heap.size]? = some (.cells (Array.replicate z (.int .u8 0)) 5 (0, 0))) _ _ (fun _ h => h) hS ?_
              clear hK K hb
              refine wpTr_take (.string ⟨X28.toArray⟩) rfl (fun W hW => by clear hW; go_simp) ?_
              simp only [Act.put, List.setIfInBounds_toArray, List.set_cons_succ, List.set_cons_zero]
              refine wpTr_take (.string ⟨X31.toArray⟩) rfl (fun W hW => by clear hW; go_simp) ?_
              simp only [Act.put, List.setIfInBounds_toArray, List.set_cons_succ, List.set_cons_zero]
              refine wpTr_take (.string ⟨X38.toArray⟩) rfl (fun W hW => by clear hW; go_simp) ?_
              simp only [Act.put, List.setIfInBounds_toArray, List.set_cons_succ, List.set_cons_zero]
              refine wpTr_one (fun K hK => ?_)
              refine wpOne_plain rfl ?_
              go_simp
              refine (number8 st _ hst).mono ?_
              rintro e c13 ⟨rfl, hb⟩
              have hS := And.intro ((hb.block _ (block_lt hS.1)).trans hS.1) ((hb.block _ (block_lt hS.2)).trans hS.2)
              have hB := hB.trans (hb.mono hB.size)
              refine hK (fun W => (fun W => W.heap[w.heap.size]? = some (.cells (rpCells st ge no ix to da) 30 (0, 0))) W ∧ W.heap[c5.heap.size]? = some (.cells (Array.replicate z (.int .u8 0)) 5 (0, 0))) _ _ (fun _ h => h) hS ?_
              clear hK K hb
              refine wpTr_take (.string ⟨X42.toArray⟩) rfl (fun W hW => by clear hW; go_simp) ?_
              simp only [Act.put, List.setIfInBounds_toArray, List.set_cons_succ, List.set_cons_zero]
              refine wpTr_done ?_
              go_wp2_with fail
              go_ret
              exact ⟨by rw [HX.out]; rfl, hB⟩
          · skip
            refine wpTr_one (fun K hK => ?_)
            refine wpOne_plain rfl ?_
            go_simp
            have hS := And.intro ((Below.heap_alloc c4 (.cells (Array.replicate z (.int .u8 0)) 5) _ (block_lt hS)).trans hS) (heap_alloc_new c4 (.cells (Array.replicate z (.int .u8 0)) 5))
            have hB := hB.alloc hB.size (.cells (Array.replicate z (.int .u8 0)) 5)
            refine hK (fun W => (fun W => W.heap[w.heap.size]? = some (.cells (rpCells st ge no ix to da) 30 (0, 0))) W ∧ W.heap[c4.heap.size]? = some (.cells (Array.replicate z (.int .u8 0)) 5 (0, 0))) _ _ (fun _ h => h.1) hS ?_
            clear hK K
            refine wpTr_take (.string ⟨(zsL z).toArray⟩) rfl (fun W hW => by have cz := conv_zeros_at2 z W _ hW.2; clear hW; go_simp) ?_
            simp only [Act.put, List.setIfInBounds_toArray, List.set_cons_succ, List.set_cons_zero]
            refine wpTr_one (fun K hK => ?_)
            refine wpOne_plain rfl ?_
            go_simp
            refine (number2 to _ hto2).mono ?_
            rintro e c15 ⟨rfl, hb⟩
            have hS := And.intro ((hb.block _ (block_lt hS.1)).trans hS.1) ((hb.block _ (block_lt hS.2)).trans hS.2)
            have hB := hB.trans (hb.mono hB.size)
            refine hK (fun W => (fun W => W.heap[w.heap.size]? = some (.cells (rpCells st ge no ix to da) 30 (0, 0))) W ∧ W.heap[c4.heap.size]? = some (.cells (Array.replicate z (.int .u8 0)) 5 (0, 0))) _ _ (fun _ h => h) hS ?_
            clear hK K hb
            refine wpTr_take (.string ⟨X22.toArray⟩) rfl (fun W hW => by clear hW; go_simp) ?_
            simp only [Act.put, List.setIfInBounds_toArray, List.set_cons_succ, List.set_cons_zero]
            refine wpTr_one (fun K hK => ?_)
            refine wpOne_plain rfl ?_
            go_simp
            refine (number1 da.length _ hda2).mono ?_
            rintro e c16 ⟨rfl, hb⟩
            have hS := And.intro ((hb.block _ (block_lt hS.1)).trans hS.1) ((hb.block _ (block_lt hS.2)).trans hS.2)
            have hB := hB.trans (hb.mono hB.size)
            refine hK (fun W => (fun W => W.heap[w.heap.size]? = some (.cells (rpCells st ge no ix to da) 30 (0, 0))) W ∧ W.heap[c4.heap.size]? = some (.cells (Array.replicate z (.int .u8 0)) 5 (0, 0))) _ _ (fun _ h => h) hS ?_
            clear hK K hb
            refine wpTr_take (.string ⟨X28.toArray⟩) rfl (fun W hW => by clear hW; go_simp) ?_
            simp only [Act.put, List.setIfInBounds_toArray, List.set_cons_succ, List.set_cons_zero]
            refine wpTr_take (.string ⟨X31.toArray⟩) rfl (fun W hW => by clear hW; go_simp) ?_
            simp only [Act.put, List.setIfInBounds_toArray, List.set_cons_succ, List.set_cons_zero]
            refine wpTr_take (.string ⟨X38.toArray⟩) rfl (fun W hW => by clear hW; go_simp) ?_
            simp only [Act.put, List.setIfInBounds_toArray, List.set_cons_succ, List.set_cons_zero]
            refine wpTr_one (fun K hK => ?_)
            refine wpOne_plain rfl ?_
            go_simp
            refine (number8 st _ hst).mono ?_
            rintro e c17 ⟨rfl, hb⟩
            have hS := And.intro ((hb.block _ (block_lt hS.1)).trans hS.1) ((hb.block _ (block_lt hS.2)).trans hS.2)
            have hB := hB.trans (hb.mono hB.size)
            refine hK (fun W => (fun W => W.heap[w.heap.size]? = some (.cells (rpCells st ge no ix to da) 30 (0, 0))) W ∧ W.heap[c4.heap.size]? = some (.cells (Array.replicate z (.int .u8 0)) 5 (0, 0))) _ _ (fun _ h => h) hS ?_
            clear hK K hb
            refine wpTr_take (.string ⟨X42.toArray⟩) rfl (fun W hW => by clear hW; go_simp) ?_
            simp only [Act.put, List.setIfInBounds_toArray, List.set_cons_succ, List.set_cons_zero]
            refine wpTr_done ?_
            go_wp2_with fail
            go_ret
            exact ⟨by rw [HX.out]; rfl, hB⟩
        · skip
          refine wpTr_one (fun K hK => ?_)
          refine wpOne_plain rfl ?_
          go_simp
          have hS := And.intro ((Below.heap_alloc c3 (.cells (Array.replicate z (.int .u8 0)) 5) _ (block_lt hS)).trans hS) (heap_alloc_new c3 (.cells (Array.replicate z (.int .u8 0)) 5))
          have hB := hB.alloc hB.size (.cells (Array.replicate z (.int .u8 0)) 5)
          refine hK (fun W => (fun W => W.heap[w.heap.size]? = some (.cells (rpCells st ge no ix to da) 30 (0, 0))) W ∧ W.heap[c3.heap.size]? = some (.cells (Array.replicate z (.int .u8 0)) 5 (0, 0))) _ _ (fun _ h => h.1) hS ?_
          clear hK K
          refine wpTr_take (.string ⟨(zsL z).toArray⟩) rfl (fun W hW => by have cz := conv_zeros_at2 z W _ hW.2; clear hW; go_simp) ?_
          simp only [Act.put, List.setIfInBounds_toArray, List.set_cons_succ, List.set_cons_zero]
          refine wpTr_one (fun K hK => ?_)
          refine wpOne_plain rfl ?_
          go_simp
          refine (number2 ix _ hix2).mono ?_
          rintro e c19 ⟨rfl, hb⟩
          have hS := And.intro ((hb.block _ (block_lt hS.1)).trans hS.1) ((hb.block _ (block_lt hS.2)).trans hS.2)
          have hB := hB.trans (hb.mono hB.size)
          refine hK (fun W => (fun W => W.heap[w.heap.size]? = some (.cells (rpCells st ge no ix to da) 30 (0, 0))) W ∧ W.heap[c3.heap.size]? = some (.cells (Array.replicate z (.int .u8 0)) 5 (0, 0))) _ _ (fun _ h => h) hS ?_
          clear hK K hb
          refine wpTr_take (.string ⟨X17.toArray⟩) rfl (fun W hW => by clear hW; go_simp) ?_
          simp only [Act.put, List.setIfInBounds_toArray, List.set_cons_succ, List.set_cons_zero]
          refine wpTr_one (fun K hK => ?_)
          refine wpOne_plain rfl ?_
          go_simp
          refine (number2 to _ hto2).mono ?_
          rintro e c20 ⟨rfl, hb⟩
          have hS := And.intro ((hb.block _ (block_lt hS.1)).trans hS.1) ((hb.block _ (block_lt hS.2)).trans hS.2)
          have hB := hB.trans (hb.mono hB.size)
          refine hK (fun W => (fun W => W.heap[w.heap.size]? = some (.cells (rpCells st ge no ix to da) 30 (0, 0))) W ∧ W.heap[c3.heap.size]? = some (.cells (Array.replicate z (.int .u8 0)) 5 (0, 0))) _ _ (fun _ h => h) hS ?_
          clear hK K hb
          refine wpTr_take (.string ⟨X22.toArray⟩) rfl (fun W hW => by clear hW; go_simp) ?_
          simp only [Act.put, List.setIfInBounds_toArray, List.set_cons_succ, List.set_cons_zero]
          refine wpTr_one (fun K hK => ?_)
          refine wpOne_plain rfl ?_
          go_simp
          refine (number1 da.length _ hda2).mono ?_
          rintro e c21 ⟨rfl, hb⟩
          have hS := And.intro ((hb.block _ (block_lt hS.1)).trans hS.1) ((hb.block _ (block_lt hS.2)).trans hS.2)
          have hB := hB.trans (hb.mono hB.size)
          refine hK (fun W => (fun W => W.heap[w.heap.size]? = some (.cells (rpCells st ge no ix to da) 30 (0, 0))) W ∧ W.heap[c3.heap.size]? = some (.cells (Array.replicate z (.int .u8 0)) 5 (0, 0))) _ _ (fun _ h => h) hS ?_
          clear hK K hb
          refine wpTr_take (.string ⟨X28.toArray⟩) rfl (fun W hW => by clear hW; go_simp) ?_
          simp only [Act.put, List.setIfInBounds_toArray, List.set_cons_succ, List.set_cons_zero]
          refine wpTr_take (.string ⟨X31.toArray⟩) rfl (fun W hW => by clear hW; go_simp) ?_
          simp only [Act.put, List.setIfInBounds_toArray, List.set_cons_succ, List.set_cons_zero]
          refine wpTr_take (.string ⟨X38.toArray⟩) rfl (fun W hW => by clear hW; go_simp) ?_
          simp only [Act.put, List.setIfInBounds_toArray, List.set_cons_succ, List.set_cons_zero]
          refine wpTr_one (fun K hK => ?_)
          refine wpOne_plain rfl ?_
          go_simp
          refine (number8 st _ hst).mono ?_
          rintro e c22 ⟨rfl, hb⟩
          have hS := And.intro ((hb.block _ (block_lt hS.1)).trans hS.1) ((hb.block _ (block_lt hS.2)).trans hS.2)
          have hB := hB.trans (hb.mono hB.size)
          refine hK (fun W => (fun W => W.heap[w.heap.size]? = some (.cells (rpCells st ge no ix to da) 30 (0, 0))) W ∧ W.heap[c3.heap.size]? = some (.cells (Array.replicate z (.int .u8 0)) 5 (0, 0))) _ _ (fun _ h => h) hS ?_
          clear hK K hb
          refine wpTr_take (.string ⟨X42.toArray⟩) rfl (fun W hW => by clear hW; go_simp) ?_
          simp only [Act.put, List.setIfInBounds_toArray, List.set_cons_succ, List.set_cons_zero]
          refine wpTr_done ?_
          go_wp2_with fail
          go_ret
          exact ⟨by rw [HX.out]; rfl, hB⟩
      · skip
        refine wpTr_one (fun K hK => ?_)
        refine wpOne_plain rfl ?_
        go_simp
        have hS := And.intro ((Below.heap_alloc c2 (.cells (Array.replicate z (.int .u8 0)) 5) _ (block_lt hS)).trans hS) (heap_alloc_new c2 (.cells (Array.replicate z (.int .u8 0)) 5))
        have hB := hB.alloc hB.size (.cells (Array.replicate z (.int .u8 0)) 5)
        refine hK (fun W => (fun W => W.heap[w.heap.size]? = some (.cells (rpCells st ge no ix to da) 30 (0, 0))) W ∧ W.heap[c2.heap.size]? = some (.cells (Array.replicate z (.int .u8 0)) 5 (0, 0))) _ _ (fun _ h => h.1) hS ?_
        clear hK K
        refine wpTr_take (.string ⟨(zsL z).toArray⟩) rfl (fun W hW => by have cz := conv_zeros_at2 z W _ hW.2; clear hW; go_simp) ?_
        simp only [Act.put, List.setIfInBounds_toArray, List.set_cons_succ, List.set_cons_zero]
        refine wpTr_one (fun K hK => ?_)
        refine wpOne_plain rfl ?_
        go_simp
        refine (number2 no _ hno2).mono ?_
        rintro e c24 ⟨rfl, hb⟩
        have hS := And.intro ((hb.block _ (block_lt hS.1)).trans hS.1) ((hb.block _ (block_lt hS.2)).trans hS.2)
        have hB := hB.trans (hb.mono hB.size)
        refine hK (fun W => (fun W => W.heap[w.heap.size]? = some (.cells (rpCells st ge no ix to da) 30 (0, 0))) W ∧ W.heap[c2.heap.size]? = some (.cells (Array.replicate z (.int .u8 0)) 5 (0, 0))) _ _ (fun _ h => h) hS ?_
        clear hK K hb
        refine wpTr_take (.string ⟨X12.toArray⟩) rfl (fun W hW => by clear hW; go_simp) ?_
        simp only [Act.put, List.setIfInBounds_toArray, List.set_cons_succ, List.set_cons_zero]
        refine wpTr_one (fun K hK => ?_)
        refine wpOne_plain rfl ?_
        go_simp
        refine (number2 ix _ hix2).mono ?_
        rintro e c25 ⟨rfl, hb⟩
        have hS := And.intro ((hb.block _ (block_lt hS.1)).trans hS.1) ((hb.block _ (block_lt hS.2)).trans hS.2)
        have hB := hB.trans (hb.mono hB.size)
        refine hK (fun W => (fun W => W.heap[w.heap.size]? = some (.cells (rpCells st ge no ix to da) 30 (0, 0))) W ∧ W.heap[c2.heap.size]? = some (.cells (Array.replicate z (.int .u8 0)) 5 (0, 0))) _ _ (fun _ h => h) hS ?_
        clear hK K hb
        refine wpTr_take (.string ⟨X17.toArray⟩) rfl (fun W hW => by clear hW; go_simp) ?_
        simp only [Act.put, List.setIfInBounds_toArray, List.set_cons_succ, List.set_cons_zero]
        refine wpTr_one (fun K hK => ?_)
        refine wpOne_plain rfl ?_
        go_simp
        refine (number2 to _ hto2).mono ?_
        rintro e c26 ⟨rfl, hb⟩
        have hS := And.intro ((hb.block _ (block_lt hS.1)).trans hS.1) ((hb.block _ (block_lt hS.2)).trans hS.2)
        have hB := hB.trans (hb.mono hB.size)
        refine hK (fun W => (fun W => W.heap[w.heap.size]? = some (.cells (rpCells st ge no ix to da) 30 (0, 0))) W ∧ W.heap[c2.heap.size]? = some (.cells (Array.replicate z (.int .u8 0)) 5 (0, 0))) _ _ (fun _ h => h) hS ?_
        clear hK K hb
        refine wpTr_take (.string ⟨X22.toArray⟩) rfl (fun W hW => by clear hW; go_simp) ?_
        simp only [Act.put, List.setIfInBounds_toArray, List.set_cons_succ, List.set_cons_zero]
        refine wpTr_one (fun K hK => ?_)
        refine wpOne_plain rfl ?_
        go_simp
        refine (number1 da.length _ hda2).mono ?_
        rintro e c27 ⟨rfl, hb⟩
        have hS := And.intro ((hb.block _ (block_lt hS.1)).trans hS.1) ((hb.block _ (block_lt hS.2)).trans hS.2)
        have hB := hB.trans (hb.mono hB.size)
        refine hK (fun W => (fun W => W.heap[w.heap.size]? = some (.cells (rpCells st ge no ix to da) 30 (0, 0))) W ∧ W.heap[c2.heap.size]? = some (.cells (Array.replicate z (.int .u8 0)) 5 (0, 0))) _ _ (fun _ h => h) hS ?_
        clear hK K hb
        refine wpTr_take (.string ⟨X28.toArray⟩) rfl (fun W hW => by clear hW; go_simp) ?_
        simp only [Act.put, List.setIfInBounds_toArray, List.set_cons_succ, List.set_cons_zero]
        refine wpTr_take (.string ⟨X31.toArray⟩) rfl (fun W hW => by clear hW; go_simp) ?_
        simp only [Act.put, List.setIfInBounds_toArray, List.set_cons_succ, List.set_cons_zero]
        refine wpTr_take (.string ⟨X38.toArray⟩) rfl (fun W hW => by clear hW; go_simp) ?_
        simp only [Act.put, List.setIfInBounds_toArray, List.set_cons_succ, List.set_cons_zero]
        refine wpTr_one (fun K hK => ?_)
        refine wpOne_plain rfl ?_
        go_simp
        refine (number8 st _ hst).mono ?_
        rintro e c28 ⟨rfl, hb⟩
        have hS := And.intro ((hb.block _ (block_lt hS.1)).trans hS.1) ((hb.block _ (block_lt hS.2)).trans hS.2)
        have hB := hB.trans (hb.mono hB.size)
        refine hK (fun W => (fun W => W.heap[w.heap.size]? = some (.cells (rpCells st ge no ix to da) 30 (0, 0))) W ∧ W.heap[c2.heap.size]? = some (.cells (Array.replicate z (.int .u8 0)) 5 (0, 0))) _ _ (fun _ h => h) hS ?_
        clear hK K hb
        refine wpTr_take (.string ⟨X42.toArray⟩) rfl (fun W hW => by clear hW; go_simp) ?_
        simp only [Act.put, List.setIfInBounds_toArray, List.set_cons_succ, List.set_cons_zero]
        refine wpTr_done ?_
        go_wp2_with fail
        go_ret
        exact ⟨by rw [HX.out]; rfl, hB⟩
    · skip
      refine wpTr_one (fun K hK => ?_)
      refine wpOne_plain rfl ?_
      go_simp
      have hS := And.intro ((Below.heap_alloc c1 (.cells (Array.replicate z (.int .u8 0)) 5) _ (block_lt hS)).trans hS) (heap_alloc_new c1 (.cells (Array.replicate z (.int .u8 0)) 5))
      have hB := hB.alloc hB.size (.cells (Array.replicate z (.int .u8 0)) 5)
      refine hK (fun W => (fun W => W.heap[w.heap.size]? = some (.cells (rpCells st ge no ix to da) 30 (0, 0))) W ∧ W.heap[c1.heap.size]? = some (.cells (Array.replicate z (.int .u8 0)) 5 (0, 0))) _ _ (fun _ h => h.1) hS ?_
      clear hK K
      refine wpTr_take (.string ⟨(zsL z).toArray⟩) rfl (fun W hW => by have cz := conv_zeros_at2 z W _ hW.2; clear hW; go_simp) ?_
      simp only [Act.put, List.setIfInBounds_toArray, List.set_cons_succ, List.set_cons_zero]
      refine wpTr_one (fun K hK => ?_)
      refine wpOne_plain rfl ?_
      go_simp
      refine (number4 ge _ hge2).mono ?_
      rintro e c30 ⟨rfl, hb⟩
      have hS := And.intro ((hb.block _ (block_lt hS.1)).trans hS.1) ((hb.block _ (block_lt hS.2)).trans hS.2)
      have hB := hB.trans (hb.mono hB.size)
      refine hK (fun W => (fun W => W.heap[w.heap.size]? = some (.cells (rpCells st ge no ix to da) 30 (0, 0))) W ∧ W.heap[c1.heap.size]? = some (.cells (Array.replicate z (.int .u8 0)) 5 (0, 0))) _ _ (fun _ h => h) hS ?_
      clear hK K hb
      refine wpTr_take (.string ⟨X7.toArray⟩) rfl (fun W hW => by clear hW; go_simp) ?_
      simp only [Act.put, List.setIfInBounds_toArray, List.set_cons_succ, List.set_cons_zero]
      refine wpTr_one (fun K hK => ?_)
      refine wpOne_plain rfl ?_
      go_simp
      refine (number2 no _ hno2).mono ?_
      rintro e c31 ⟨rfl, hb⟩
      have hS := And.intro ((hb.block _ (block_lt hS.1)).trans hS.1) ((hb.block _ (block_lt hS.2)).trans hS.2)
      have hB := hB.trans (hb.mono hB.size)
      refine hK (fun W => (fun W => W.heap[w.heap.size]? = some (.cells (rpCells st ge no ix to da) 30 (0, 0))) W ∧ W.heap[c1.heap.size]? = some (.cells (Array.replicate z (.int .u8 0)) 5 (0, 0))) _ _ (fun _ h => h) hS ?_
      clear hK K hb
      refine wpTr_take (.string ⟨X12.toArray⟩) rfl (fun W hW => by clear hW; go_simp) ?_
      simp only [Act.put, List.setIfInBounds_toArray, List.set_cons_succ, List.set_cons_zero]
      refine wpTr_one (fun K hK => ?_)
      refine wpOne_plain rfl ?_
      go_simp
      refine (number2 ix _ hix2).mono ?_
      rintro e c32 ⟨rfl, hb⟩
      have hS := And.intro ((hb.block _ (block_lt hS.1)).trans hS.1) ((hb.block _ (block_lt hS.2)).trans hS.2)
      have hB := hB.trans (hb.mono hB.size)
      refine hK (fun W => (fun W => W.heap[w.heap.size]? = some (.cells (rpCells st ge no ix to da) 30 (0, 0))) W ∧ W.heap[c1.heap.size]? = some (.cells (Array.replicate z (.int .u8 0)) 5 (0, 0))) _ _ (fun _ h => h) hS ?_
      clear hK K hb
      refine wpTr_take (.string ⟨X17.toArray⟩) rfl (fun W hW => by clear hW; go_simp) ?_
      simp only [Act.put, List.setIfInBounds_toArray, List.set_cons_succ, List.set_cons_zero]
      refine wpTr_one (fun K hK => ?_)
      refine wpOne_plain rfl ?_
      go_simp
      refine (number2 to _ hto2).mono ?_
      rintro e c33 ⟨rfl, hb⟩
      have hS := And.intro ((hb.block _ (block_lt hS.1)).trans hS.1) ((hb.block _ (block_lt hS.2)).trans hS.2)
      have hB := hB.trans (hb.mono hB.size)
      refine hK (fun W => (fun W => W.heap[w.heap.size]? = some (.cells (rpCells st ge no ix to da) 30 (0, 0))) W ∧ W.heap[c1.heap.size]? = some (.cells (Array.replicate z (.int .u8 0)) 5 (0, 0))) _ _ (fun _ h => h) hS ?_
      clear hK K hb
      refine wpTr_take (.string ⟨X22.toArray⟩) rfl (fun W hW => by clear hW; go_simp) ?_
      simp only [Act.put, List.setIfInBounds_toArray, List.set_cons_succ, List.set_cons_zero]
      refine wpTr_one (fun K hK => ?_)
      refine wpOne_plain rfl ?_
      go_simp
      refine (number1 da.length _ hda2).mono ?_
      rintro e c34 ⟨rfl, hb⟩
      have hS := And.intro ((hb.block _ (block_lt hS.1)).trans hS.1) ((hb.block _ (block_lt hS.2)).trans hS.2)
      have hB := hB.trans (hb.mono hB.size)
      refine hK (fun W => (fun W => W.heap[w.heap.size]? = some (.cells (rpCells st ge no ix to da) 30 (0, 0))) W ∧ W.heap[c1.heap.size]? = some (.cells (Array.replicate z (.int .u8 0)) 5 (0, 0))) _ _ (fun _ h => h) hS ?_
      clear hK K hb
      refine wpTr_take (.string ⟨X28.toArray⟩) rfl (fun W hW => by clear hW; go_simp) ?_
      simp only [Act.put, List.setIfInBounds_toArray, List.set_cons_succ, List.set_cons_zero]
      refine wpTr_take (.string ⟨X31.toArray⟩) rfl (fun W hW => by clear hW; go_simp) ?_
      simp only [Act.put, List.setIfInBounds_toArray, List.set_cons_succ, List.set_cons_zero]
      refine wpTr_take (.string ⟨X38.toArray⟩) rfl (fun W hW => by clear hW; go_simp) ?_
      simp only [Act.put, List.setIfInBounds_toArray, List.set_cons_succ, List.set_cons_zero]
      refine wpTr_one (fun K hK => ?_)
      refine wpOne_plain rfl ?_
      go_simp
      refine (number8 st _ hst).mono ?_
      rintro e c35 ⟨rfl, hb⟩
      have hS := And.intro ((hb.block _ (block_lt hS.1)).trans hS.1) ((hb.block _ (block_lt hS.2)).trans hS.2)
      have hB := hB.trans (hb.mono hB.size)
      refine hK (fun W => (fun W => W.heap[w.heap.size]? = some (.cells (rpCells st ge no ix to da) 30 (0, 0))) W ∧ W.heap[c1.heap.size]? = some (.cells (Array.replicate z (.int .u8 0)) 5 (0, 0))) _ _ (fun _ h => h) hS ?_
      clear hK K hb
      refine wpTr_take (.string ⟨X42.toArray⟩) rfl (fun W hW => by clear hW; go_simp) ?_
      simp only [Act.put, List.setIfInBounds_toArray, List.set_cons_succ, List.set_cons_zero]
      refine wpTr_done ?_
      go_wp2_with fail
      go_ret
      exact ⟨by rw [HX.out]; rfl, hB⟩
  · skip
    refine wpTr_one (fun K hK => ?_)
    refine wpOne_plain rfl ?_
    go_simp
    have hS := And.intro ((Below.heap_alloc c0 (.cells (Array.replicate z (.int .u8 0)) 5) _ (block_lt hS)).trans hS) (heap_alloc_new c0 (.cells (Array.replicate z (.int .u8 0)) 5))
    have hB := hB.alloc hB.size (.cells (Array.replicate z (.int .u8 0)) 5)
    refine hK (fun W => (fun W => W.heap[w.heap.size]? = some (.cells (rpCells st ge no ix to da) 30 (0, 0))) W ∧ W.heap[c0.heap.size]? = some (.cells (Array.replicate z (.int .u8 0)) 5 (0, 0))) _ _ (fun _ h => h.1) hS ?_
    clear hK K
    refine wpTr_take (.string ⟨(zsL z).toArray⟩) rfl (fun W hW => by have cz := conv_zeros_at2 z W _ hW.2; clear hW; go_simp) ?_
    simp only [Act.put, List.setIfInBounds_toArray, List.set_cons_succ, List.set_cons_zero]
    refine wpTr_one (fun K hK => ?_)
    refine wpOne_plain rfl ?_
    go_simp
    refine (number8 st _ hst).mono ?_
    rintro e c37 ⟨rfl, hb⟩
    have hS := And.intro ((hb.block _ (block_lt hS.1)).trans hS.1) ((hb.block _ (block_lt hS.2)).trans hS.2)
    have hB := hB.trans (hb.mono hB.size)
    refine hK (fun W => (fun W => W.heap[w.heap.size]? = some (.cells (rpCells st ge no ix to da) 30 (0, 0))) W ∧ W.heap[c0.heap.size]? = some (.cells (Array.replicate z (.int .u8 0)) 5 (0, 0))) _ _ (fun _ h => h) hS ?_
    clear hK K hb
    refine wpTr_one (fun K hK => ?_)
    refine wpOne_plain rfl ?_
    go_simp
    refine (number4 ge _ hge2).mono ?_
    rintro e c38 ⟨rfl, hb⟩
    have hS := And.intro ((hb.block _ (block_lt hS.1)).trans hS.1) ((hb.block _ (block_lt hS.2)).trans hS.2)
    have hB := hB.trans (hb.mono hB.size)
    refine hK (fun W => (fun W => W.heap[w.heap.size]? = some (.cells (rpCells st ge no ix to da) 30 (0, 0))) W ∧ W.heap[c0.heap.size]? = some (.cells (Array.replicate z (.int .u8 0)) 5 (0, 0))) _ _ (fun _ h => h) hS ?_
    clear hK K hb
    refine wpTr_take (.string ⟨X7.toArray⟩) rfl (fun W hW => by clear hW; go_simp) ?_
    simp only [Act.put, List.setIfInBounds_toArray, List.set_cons_succ, List.set_cons_zero]
    refine wpTr_one (fun K hK => ?_)
    refine wpOne_plain rfl ?_
    go_simp
    refine (number2 no _ hno2).mono ?_
    rintro e c39 ⟨rfl, hb⟩
    have hS := And.intro ((hb.block _ (block_lt hS.1)).trans hS.1) ((hb.block _ (block_lt hS.2)).trans hS.2)
    have hB := hB.trans (hb.mono hB.size)
    refine hK (fun W => (fun W => W.heap[w.heap.size]? = some (.cells (rpCells st ge no ix to da) 30 (0, 0))) W ∧ W.heap[c0.heap.size]? = some (.cells (Array.replicate z (.int .u8 0)) 5 (0, 0))) _ _ (fun _ h => h) hS ?_
    clear hK K hb
    refine wpTr_take (.string ⟨X12.toArray⟩) rfl (fun W hW => by clear hW; go_simp) ?_
    simp only [Act.put, List.setIfInBounds_toArray, List.set_cons_succ, List.set_cons_zero]
    refine wpTr_one (fun K hK => ?_)
    refine wpOne_plain rfl ?_
    go_simp
    refine (number2 ix _ hix2).mono ?_
    rintro e c40 ⟨rfl, hb⟩
    have hS := And.intro ((hb.block _ (block_lt hS.1)).trans hS.1) ((hb.block _ (block_lt hS.2)).trans hS.2)
    have hB := hB.trans (hb.mono hB.size)
    refine hK (fun W => (fun W => W.heap[w.heap.size]? = some (.cells (rpCells st ge no ix to da) 30 (0, 0))) W ∧ W.heap[c0.heap.size]? = some (.cells (Array.replicate z (.int .u8 0)) 5 (0, 0))) _ _ (fun _ h => h) hS ?_
    clear hK K hb
    refine wpTr_take (.string ⟨X17.toArray⟩) rfl (fun W hW => by clear hW; go_simp) ?_
    simp only [Act.put, List.setIfInBounds_toArray, List.set_cons_succ, List.set_cons_zero]
    refine wpTr_one (fun K hK => ?_)
    refine wpOne_plain rfl ?_
    go_simp
    refine (number2 to _ hto2).mono ?_
    rintro e c41 ⟨rfl, hb⟩
    have hS := And.intro ((hb.block _ (block_lt hS.1)).trans hS.1) ((hb.block _ (block_lt hS.2)).trans hS.2)
    have hB := hB.trans (hb.mono hB.size)
    refine hK (fun W => (fun W => W.heap[w.heap.size]? = some (.cells (rpCells st ge no ix to da) 30 (0, 0))) W ∧ W.heap[c0.heap.size]? = some (.cells (Array.replicate z (.int .u8 0)) 5 (0, 0))) _ _ (fun _ h => h) hS ?_
    clear hK K hb
    refine wpTr_take (.string ⟨X22.toArray⟩) rfl (fun W hW => by clear hW; go_simp) ?_
    simp only [Act.put, List.setIfInBounds_toArray, List.set_cons_succ, List.set_cons_zero]
    refine wpTr_one (fun K hK => ?_)
    refine wpOne_plain rfl ?_
    go_simp
    refine (number1 da.length _ hda2).mono ?_
    rintro e c42 ⟨rfl, hb⟩
    have hS := And.intro ((hb.block _ (block_lt hS.1)).trans hS.1) ((hb.block _ (block_lt hS.2)).trans hS.2)
    have hB := hB.trans (hb.mono hB.size)
    refine hK (fun W => (fun W => W.heap[w.heap.size]? = some (.cells (rpCells st ge no ix to da) 30 (0, 0))) W ∧ W.heap[c0.heap.size]? = some (.cells (Array.replicate z (.int .u8 0)) 5 (0, 0))) _ _ (fun _ h => h) hS ?_
    clear hK K hb
    refine wpTr_take (.string ⟨X28.toArray⟩) rfl (fun W hW => by clear hW; go_simp) ?_
    simp only [Act.put, List.setIfInBounds_toArray, List.set_cons_succ, List.set_cons_zero]
    refine wpTr_take (.string ⟨X31.toArray⟩) rfl (fun W hW => by clear hW; go_simp) ?_
    simp only [Act.put, List.setIfInBounds_toArray, List.set_cons_succ, List.set_cons_zero]
    refine wpTr_take (.string ⟨X38.toArray⟩) rfl (fun W hW => by clear hW; go_simp) ?_
    simp only [Act.put, List.setIfInBounds_toArray, List.set_cons_succ, List.set_cons_zero]
    refine wpTr_one (fun K hK => ?_)
    refine wpOne_plain rfl ?_
    go_simp
    refine (number8 st _ hst).mono ?_
    rintro e c43 ⟨rfl, hb⟩
    have hS := And.intro ((hb.block _ (block_lt hS.1)).trans hS.1) ((hb.block _ (block_lt hS.2)).trans hS.2)
    have hB := hB.trans (hb.mono hB.size)
    refine hK (fun W => (fun W => W.heap[w.heap.size]? = some (.cells (rpCells st ge no ix to da) 30 (0, 0))) W ∧ W.heap[c0.heap.size]? = some (.cells (Array.replicate z (.int .u8 0)) 5 (0, 0))) _ _ (fun _ h => h) hS ?_
    clear hK K hb
    refine wpTr_take (.string ⟨X42.toArray⟩) rfl (fun W hW => by clear hW; go_simp) ?_
    simp only [Act.put, List.setIfInBounds_toArray, List.set_cons_succ, List.set_cons_zero]
    refine wpTr_done ?_
    go_wp2_with fail
    go_ret
    exact ⟨by rw [HX.out]; rfl, hB⟩
end Go.Proofs.YtbdhicjebeoakaaDoor
