/- lockageref03.Fate answers as disk.Fate does. -/
import Derived.Test.YtbdhicjebeoakaaDisk1
set_option linter.unusedVariables false
set_option linter.unusedSimpArgs false
namespace Go.Proofs.Ytbdhicjebeoakaa
open Go.RowKit

theorem rfateN_way1 {X : Int} (h : X % 2 = 0) : fateN (X % 8) = 0 := by
  have h' : X % 8 % 2 = 0 := by omega
  unfold fateN; rw [if_pos h']
theorem rfateN_way2 {X : Int} (h : ¬ X % 2 = 0) (h2 : (X % 8 == 1) = true) : fateN (X % 8) = 64 := by
  have h' : X % 8 % 2 ≠ 0 := by omega
  have h2' : X % 8 = 1 := by simpa using h2
  unfold fateN; rw [if_neg h', if_pos h2']
theorem rfateN_way3 {X : Int} (h : ¬ X % 2 = 0) (h2 : (X % 8 == 1) = false) : (fateN (X % 8) : Int) = 16 * ((X % 8 - 1) / 2) := by
  have h' : X % 8 % 2 ≠ 0 := by omega
  have h2' : X % 8 ≠ 1 := by simpa using h2
  unfold fateN; rw [if_neg h', if_neg h2']; omega
theorem reffate_any (bits i : Int) (w : World) (hb : 0 ≤ bits) (hb2 : bits ≤ 18446744073709551615) :
    Calls Try.prog 11 #[.int .u64 bits, .int .i64 i] w fun e w' => e = .returned (.int .i64 (fate bits i)) ∧ w = w' := by
  by_cases h : i < 0
  · go_enter Try.func11, Try.ntmps11
    go_wp2
    go_ret
    exact ⟨by simp [fate, h], rfl⟩
  · have h0 : 0 ≤ i := by omega
    have hfate : fate bits i = fateN ((bits / 2 ^ (3 * (i % 21)).toNat) % 8) := by simp [fate, h]
    generalize hX : bits / 2 ^ (3 * (i % 21)).toNat = X at hfate
    have e1 := and7
    have e3 := wrap_mod8
    have hc0 : 0 ≤ X % 8 := Int.emod_nonneg _ (by decide)
    have hc8 : X % 8 < 8 := Int.emod_lt_of_pos _ (by decide)
    have hX' : Hid (fate bits i = fateN (X % 8)) := hfate
    clear hfate
    by_cases hev : X % 2 = 0
    · have he : (X % 2 == 0) = true := by simpa using hev
      have HEV := Lib.hid hev
      clear hev
      go_enter Try.func11, Try.ntmps11
      go_wp2
      go_ret
      exact ⟨by rw [hX'.out, rfateN_way1 HEV.out]; rfl, rfl⟩
    · have he : (X % 2 == 0) = false := by simpa using hev
      have h1 : 1 ≤ X % 8 := by omega
      have HEV := Lib.hid hev
      clear hev
      go_enter Try.func11, Try.ntmps11
      go_wp2
      · go_ret
        exact ⟨by rw [hX'.out, rfateN_way2 HEV.out (by assumption)]; rfl, rfl⟩
      · go_ret
        exact ⟨by rw [hX'.out, rfateN_way3 HEV.out (by assumption)]; rfl, rfl⟩
end Go.Proofs.Ytbdhicjebeoakaa
