/- The walk of lockagelaw03.DiskNil. -/
import Derived.Test.YtbdhicjebeoakaaAwake
import Derived.Test.YtbdhicjebeoakaaBounds
set_option linter.unusedVariables false
set_option linter.unusedSimpArgs false
namespace Go.Proofs.Ytbdhicjebeoakaa
open Go.RowKit
set_option maxHeartbeats 1000000 in
theorem nil_walk (at_ c u : Int) (s : ByteArray) (w : World) :
    Calls Try.prog 7 #[.int .i64 at_, .string s, .agg #[.int .i64 c, .int .u64 u]] w fun e w' => e = .returned (.bool true) ∧ Below w.heap.size w w' := by
  go_enter Try.func7, Try.ntmps7
  go_wp2_with fail
  refine (arm_nil c u _).mono ?_
  rintro e w1 ⟨rfl, hB1⟩
  have hb0 : Below w.heap.size w w1 := ((Below.refl _ _).alloc (Nat.le_refl _) _).trans (hB1.mono (by simp))
  have c0 : w1.cell? ⟨w.heap.size, 1, none⟩ = some (.int .u64 u) := by
    rw [hB1.cell (p := ⟨w.heap.size, 1, none⟩) (by simp), block_cell (heap_alloc_new w _)]; rfl
  have HB := Lib.hid hb0
  clear hB1 hb0
  go_wp2_with (first | (go_at_call 24; refine (crash_nil _ _).mono ?_; rintro e w' ⟨rfl, rfl⟩) | (go_at_call 26; refine (start_nil _).mono ?_; rintro e w' ⟨rfl, rfl⟩) | (go_at_call 16; refine (read_nil _ _).mono ?_; rintro e w' ⟨rfl, rfl⟩) | (go_at_call 10; refine (awake_any _).mono ?_; rintro e w' ⟨rfl, hB⟩) | (go_at_call 13; refine (write_nil _ _ _).mono ?_; rintro e w' ⟨rfl, rfl⟩) | (go_at_call 15; refine (flush_nil _).mono ?_; rintro e w' ⟨rfl, rfl⟩) | (go_at_call 28; refine (down_nil _).mono ?_; rintro e w' ⟨rfl, rfl⟩) | (go_at_call 30; refine (kept_nil _ _).mono ?_; rintro e w' ⟨rfl, rfl⟩) | (go_at_call 17; refine (writes_nil _).mono ?_; rintro e w' ⟨rfl, rfl⟩) | (go_at_call 29; refine (len_nil _).mono ?_; rintro e w' ⟨rfl, rfl⟩))
  go_ret
  exact ⟨rfl, HB.out.trans (hB.mono HB.out.size)⟩
end Go.Proofs.Ytbdhicjebeoakaa
