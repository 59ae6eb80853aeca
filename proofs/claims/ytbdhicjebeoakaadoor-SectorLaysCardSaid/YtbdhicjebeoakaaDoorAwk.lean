/- lockagelaw04.awake. -/
import Derived.Test.YtbdhicjebeoakaaDoorRLay
import Derived.Test.YtbdhicjebeoakaaDoorSame
import Derived.Test.YtbdhicjebeoakaaDoorLayQ
import Derived.Test.YtbdhicjebeoakaaDoorHead
set_option linter.unusedVariables false
set_option linter.unusedSimpArgs false
namespace Go.Proofs.YtbdhicjebeoakaaDoor
open Go.RowKit

/-! ### Texts of noughts -/
theorem make_zeros (n : Nat) (hn : n ≤ 4096) (W : World) :
    (Instr.makeSlice 52 (.int .i64 (n : Int)) (.int .i64 (n : Int))).run Tryd.prog W = .ok (.slice (some ⟨W.heap.size, 0, none⟩) n n) (W.alloc (.cells (Array.replicate n (.int .u8 0)) 5)) := by
  have := run_make_same (P := Tryd.prog) 52 5 (.int .u8 0) 1 1 (by kernel_rfl) (by kernel_rfl) (by decide) n (by omega) (by omega) W
  simpa using this
theorem conv_zeros (n : Nat) (W : World) :
    (convert 52 9 (.slice (some ⟨W.heap.size, 0, none⟩) n n)).run Tryd.prog (W.alloc (.cells (Array.replicate n (.int .u8 0)) 5)) = .ok (.string ⟨(List.replicate n (0 : UInt8)).toArray⟩) (W.alloc (.cells (Array.replicate n (.int .u8 0)) 5)) := by
  have := run_convert_bytes_back (P := Tryd.prog) (W.alloc (.cells (Array.replicate n (.int .u8 0)) 5)) 52 9 5 ⟨W.heap.size, 0, none⟩ n (List.replicate n (0 : UInt8)) (by kernel_rfl) (by kernel_rfl) (by kernel_rfl) (fun j hj => by
    have hj' : j < n := by simpa using hj
    rw [add_at, block_cell (heap_alloc_new _ _), Nat.zero_add, Array.getElem?_eq_getElem (by simpa using hj')]
    simp)
  rwa [List.length_replicate] at this
/-! ### The texts of awake -/
def T40 : List UInt8 := [48, 49, 50, 51, 52, 53, 54, 55, 56, 57, 48, 49, 50, 51, 52, 53, 54, 55, 56, 57, 48, 49, 50, 51, 52, 53, 54, 55, 56, 57, 48, 49, 50, 51, 52, 53, 54, 55, 56, 57]
def L40 : List (List UInt8) := layL T40 7 1 2
def q40 : Pc := ⟨7, 1, 2, 1, 2, [55, 56, 57]⟩
theorem ok40 : layOk T40 1 2 = true := by decide +kernel
theorem L40_length : L40.length = 2 := by rw [L40, layL_length]; rfl
def x40 : List UInt8 := L40.getD 0 []
def y40 : List UInt8 := L40.getD 1 []
theorem L40_0 : L40[0]? = some x40 := by
  rw [x40, List.getD_eq_getElem?_getD, List.getElem?_eq_getElem (by rw [L40_length]; omega)]; rfl
theorem L40_1 : L40[1]? = some y40 := by
  rw [y40, List.getD_eq_getElem?_getD, List.getElem?_eq_getElem (by rw [L40_length]; omega)]; rfl
theorem y40_print : y40 = q40.print := by
  have h := layL_get T40 7 1 2 1 (by decide)
  have h1 := L40_1
  rw [L40, h] at h1
  have h2 := Option.some.inj h1
  rw [← h2]
  rfl
theorem q40_right : q40.right = true := by decide
theorem y40_read : readR y40 = some q40 := by rw [y40_print]; exact readR_print q40 q40_right (by decide)
theorem zero_read : readR (List.replicate 64 0) = none := by decide +kernel
theorem next40 (F : Int → List UInt8) (h0 : F 0 = x40) (h1 : F 1 = y40) : nextAll F 0 2 1 2 = some (T40, 2) := by
  have e : rowOf F 0 (room 0 2) = L40 := by
    have e2 : L40 = [x40, y40] := by
      have := L40_length
      apply List.ext_getElem?
      intro i
      rcases i with _ | _ | i
      · rw [L40_0]; rfl
      · rw [L40_1]; rfl
      · rw [List.getElem?_eq_none (by omega), List.getElem?_eq_none (by simp)]
    rw [e2]
    show [F (0 + ((0 : Nat) : Int)), F (0 + ((1 : Nat) : Int))] = _
    rw [show (0 : Int) + ((0 : Nat) : Int) = 0 by rfl, show (0 : Int) + ((1 : Nat) : Int) = 1 by rfl, h0, h1]
  unfold nextAll
  rw [e]
  have := next_whole (s := T40) (st := 7) (gen := 1) (no := 2) ok40 (by decide) [] Pc.zero
  rwa [List.append_nil] at this
theorem next40n (F : Int → List UInt8) (h0 : F 0 = x40) (h1 : F 1 = y40) : nextAll F 0 2 1 3 = none := by
  have e : rowOf F 0 (room 0 2) = L40 := by
    have e2 : L40 = [x40, y40] := by
      have := L40_length
      apply List.ext_getElem?
      intro i
      rcases i with _ | _ | i
      · rw [L40_0]; rfl
      · rw [L40_1]; rfl
      · rw [List.getElem?_eq_none (by omega), List.getElem?_eq_none (by simp)]
    rw [e2]
    show [F (0 + ((0 : Nat) : Int)), F (0 + ((1 : Nat) : Int))] = _
    rw [show (0 : Int) + ((0 : Nat) : Int) = 0 by rfl, show (0 : Int) + ((1 : Nat) : Int) = 1 by rfl, h0, h1]
  unfold nextAll
  rw [e]
  have := next_other (s := T40) (st := 7) (gen := 1) (no := 2) ok40 (by decide) 1 3 (.inr (by decide)) [] [] Pc.zero
  rwa [List.append_nil] at this
theorem x40_len : x40.length ≤ 64 := by decide +kernel
theorem y40_len : y40.length ≤ 64 := by rw [y40_print]; decide +kernel
end Go.Proofs.YtbdhicjebeoakaaDoor
