/- The walk of lockagelaw03.DiskFates. -/
import Derived.Test.YtbdhicjebeoakaaAwake
import Derived.Test.YtbdhicjebeoakaaRefFate
import Derived.Test.YtbdhicjebeoakaaBounds
set_option linter.unusedVariables false
set_option linter.unusedSimpArgs false
namespace Go.Proofs.Ytbdhicjebeoakaa
open Go.RowKit
theorem reffate_to {bits i : Int} {c : Nat} (w : World) (hb : 0 ≤ bits) (hb2 : bits ≤ 18446744073709551615) (h : fate bits i = c) :
    Calls Try.prog 11 #[.int .u64 bits, .int .i64 i] w fun e w' => e = .returned (.int .i64 c) ∧ w = w' := by
  have := reffate_any bits i w hb hb2
  rw [h] at this
  exact this
theorem fates_walk (bits i : Int) (w : World) (hb : 0 ≤ bits) (hb2 : bits ≤ 18446744073709551615) :
    Calls Try.prog 3 #[.int .u64 bits, .int .i64 i] w fun e w' => e = .returned (.bool true) ∧ Below w.heap.size w w' := by
  have key : ∀ c : Nat, (c = 0 ∨ c = 16 ∨ c = 32 ∨ c = 48 ∨ c = 64) → fate bits i = c →
      Calls Try.prog 3 #[.int .u64 bits, .int .i64 i] w fun e w' => e = .returned (.bool true) ∧ Below w.heap.size w w' := by
    intro c hc hf
    have HF := Lib.hid hf
    clear hf
    rcases hc with rfl | rfl | rfl | rfl | rfl
    all_goals
      go_enter Try.func3, Try.ntmps3
      go_wp2_with (first | (go_at_call 9; refine (fate_to _ hb hb2 HF.out).mono ?_; rintro e w' ⟨rfl, rfl⟩) | (go_at_call 11; refine (reffate_to _ hb hb2 HF.out).mono ?_; rintro e w' ⟨rfl, rfl⟩) | (go_at_call 10; refine (awake_any _).mono ?_; rintro e w' ⟨rfl, hB⟩))
      go_ret
      exact ⟨rfl, hB⟩
  exact key _ (fate_cases bits i) rfl
end Go.Proofs.Ytbdhicjebeoakaa
