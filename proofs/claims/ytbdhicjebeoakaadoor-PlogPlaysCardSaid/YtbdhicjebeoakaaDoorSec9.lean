/- sector.part, sector.Count, the reference's Count, lockagelaw04.like. -/
import Derived.Test.YtbdhicjebeoakaaDoorSec8
import Derived.Test.YtbdhicjebeoakaaDoorLayP
set_option linter.unusedVariables false
set_option linter.unusedSimpArgs false
namespace Go.Proofs.YtbdhicjebeoakaaDoor
open Go.RowKit

theorem count_any (n : Int) (w : World) (h0 : 0 ≤ n) (h1 : n ≤ 9223372036854775000) :
    Calls Tryd.prog 22 #[.int .i64 n] w fun e w' => e = .returned (.int .i64 (countOf n.toNat : Int)) ∧ w = w' := by
  obtain ⟨m, rfl⟩ := Int.eq_ofNat_of_zero_le h0
  go_enter Tryd.func22, Tryd.ntmps22
  go_wp2
  all_goals
    go_ret
    refine ⟨ret_int ?_, rfl⟩
    simp only [countOf, Int.toNat_natCast]
    split <;> omega
theorem rcount_any (n : Int) (w : World) (h0 : 0 ≤ n) (h1 : n ≤ 9223372036854775000) :
    Calls Tryd.prog 23 #[.int .i64 n] w fun e w' => e = .returned (.int .i64 (countOf n.toNat : Int)) ∧ w = w' := by
  obtain ⟨m, rfl⟩ := Int.eq_ofNat_of_zero_le h0
  go_enter Tryd.func23, Tryd.ntmps23
  go_wp2
  all_goals
    go_ret
    refine ⟨ret_int ?_, rfl⟩
    simp only [countOf, Int.toNat_natCast]
    split <;> omega
theorem part_any (p f : Pc) (i : Int) (w : World) (hp : 0 ≤ p.total) (hp2 : p.total < 65536) (hl : p.data.length ≤ 37) (hi : 0 ≤ i) (hi2 : i < 65536) :
    Calls Tryd.prog 54 #[.agg (pcV p), .agg (pcV f), .int .i64 i] w fun e w' => e = .returned (.bool (partB p f i)) ∧ Below w.heap.size w w' := by
  obtain ⟨st, ge, no, ix, to, da⟩ := p
  obtain ⟨st', ge', no', ix', to', da'⟩ := f
  simp only [pcV] at *
  have hsz : (⟨da.toArray⟩ : ByteArray).size = da.length := by simp [ByteArray.size]
  go_enter Tryd.func54, Tryd.ntmps54
  go_wp2
  all_goals
    go_ret
    refine ⟨ret_bool ?_, ((Below.refl _ _).alloc (Nat.le_refl _) _).alloc (by simp) _⟩
    rw [Bool.eq_iff_iff]
    simp only [partB, decide_eq_true_eq]
    simp [*]
    try omega
theorem like_any (p : Pc) (w : World) :
    Calls Tryd.prog 14 #[.agg (pcV p)] w fun e w' => e = .returned (.agg (pcV p)) ∧ Below w.heap.size w w' := by
  obtain ⟨st, ge, no, ix, to, da⟩ := p
  simp only [pcV]
  go_enter Tryd.func14, Tryd.ntmps14
  go_wp2_with fail
  exact bodyPost_ret (v := .agg #[.int .u64 (st : Int), .int .i64 ge, .int .i64 no, .int .i64 ix, .int .i64 to, .string ⟨da.toArray⟩]) (by simp [results, Tryd.results14, go_sem]) rfl ⟨rfl, ((Below.refl _ _).alloc (Nat.le_refl _) _).alloc (by simp) _⟩
end Go.Proofs.YtbdhicjebeoakaaDoor
