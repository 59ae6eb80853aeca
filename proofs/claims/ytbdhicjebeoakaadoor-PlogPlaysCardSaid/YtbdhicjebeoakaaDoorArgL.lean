/- Arguments that are slices of strings, opened; a world in which the two listed tables are laid (the witness). -/
import Derived.Test.YtbdhicjebeoakaaDoorCards
import Derived.Test.YtbdhicjebeoakaaDoorTie
import Derived.Test.YtbdhicjebeoakaaDoorBounds
import Derived.WalkKit
import Derived.ProofKit
import Derived.OpenShut
import Derived.ShutString
import Derived.ChangeOld
import Derived.Deep.DeepHandedRow
import Derived.Lib.LaidTab
import Derived.Lib.SmallJoins
import Derived.Test.YtbdhicjebeoakaaDoorApp
import Derived.SliceStrings
set_option linter.unusedVariables false
namespace Go.Proofs.YtbdhicjebeoakaaDoor
open Go.Joins Go.ChangeShapes Go.WideShapes Go.RowKit Go.Deep Go.ChangeAt
open Go.ChangeMaps (open_string)

set_option maxRecDepth 50000 in
theorem open_texts {H : Type} {enc : TypeId × Value → H} {W : World} {base : Nat} {v : Value} {d : DataW H} {p : List MemPlace}
    (hval : Value.okWide Tryd.prog W .any base 41 v) (h : DataW.Trod enc Tryd.prog W 0 (fun _ => true) true 41 v d p) : ∃ l, StrsAt W v l ∧ ∀ t ∈ l, t.length ≤ 9223372036854775807 := by
  obtain ⟨ad, n, c, rfl⟩ := okWide_slice Tryd.underlying41 hval
  obtain ⟨fuel, hf⟩ := h
  rcases open_strings Tryd.underlying41 Tryd.underlying9 (by kernel_rfl) hf with ⟨hcs, _⟩ | ⟨a, len, cap, ss, hcs, _, hl, hm, hz, hx, hcell, hsz⟩
  · simp [Value.cells] at hcs
    obtain ⟨rfl, rfl, rfl⟩ := hcs
    exact ⟨[], StrsAt.nil W, fun t ht => by cases ht⟩
  · simp [Value.cells] at hcs
    obtain ⟨rfl, rfl, rfl⟩ := hcs
    simp only [if_true] at hz
    have hlen : ((ss.take n).map fun s : ByteArray => s.data.toList).length = n := by rw [List.length_map, List.length_take]; omega
    refine ⟨(ss.take n).map fun s : ByteArray => s.data.toList, ⟨some a, c, by rw [hlen], by rw [hlen]; unfold maxLen at hm; omega, fun i t ht => ?_⟩, fun t ht => ?_⟩
    · have hi : i < n := by
        rcases Nat.lt_or_ge i n with h | h
        · exact h
        · rw [List.getElem?_eq_none (by rw [hlen]; exact h)] at ht; cases ht
      have his : i < ss.length := by omega
      have hsp : a.spot = none := by simpa [Addr.add] using World.cell?_spot (hcell 0 (by omega))
      have h1 := hcell i his
      obtain ⟨g, off, spot⟩ := a
      simp only at hsp
      subst hsp
      rw [add_at, List.getD_eq_getElem?_getD, List.getElem?_eq_getElem his] at h1
      rw [List.getElem?_map, List.getElem?_take, if_pos hi, List.getElem?_eq_getElem his] at ht
      simp only [Option.map_some] at ht
      have ht2 := Option.some.inj ht
      subst ht2
      exact ⟨g, off, rfl, h1⟩
    · obtain ⟨s, hs, rfl⟩ := List.mem_map.1 ht
      have h1 := hsz s (List.mem_of_mem_take hs)
      have h7 : s.data.toList.length = s.size := Array.length_toList
      rw [h7]
      unfold maxLen at h1
      omega
/-! ### The witness: the two tables laid -/
def firstCells : Array Value := (Go.Pinned.utf8FirstZ.map fun (n : Nat) => Value.int .u8 (n : Int)).toArray
def acceptCells : Array Value := #[.int .u8 128, .int .u8 191, .int .u8 160, .int .u8 191, .int .u8 128, .int .u8 159, .int .u8 144, .int .u8 191, .int .u8 128, .int .u8 143,
  .int .u8 0, .int .u8 0, .int .u8 0, .int .u8 0, .int .u8 0, .int .u8 0, .int .u8 0, .int .u8 0, .int .u8 0, .int .u8 0, .int .u8 0, .int .u8 0, .int .u8 0, .int .u8 0, .int .u8 0, .int .u8 0, .int .u8 0, .int .u8 0, .int .u8 0, .int .u8 0, .int .u8 0, .int .u8 0]
noncomputable def laidWorld (os : Os) : World :=
  { World.holding Tryd.prog os ⟨#[], #[], []⟩ with heap := (((World.holding Tryd.prog os ⟨#[], #[], []⟩).heap.modify 0 (fun o => match o with
      | .cells _ t frozen => .cells firstCells t frozen
      | o => o)).modify 1 (fun o => match o with
      | .cells _ t frozen => .cells acceptCells t frozen
      | o => o)) }
end Go.Proofs.YtbdhicjebeoakaaDoor
