/- Arguments that are pieces, opened; a world in which the two listed tables are laid (the witness). -/
import Derived.Test.YtbdhicjebeoakaaDoorCards
import Derived.Test.YtbdhicjebeoakaaDoorTie
import Derived.Test.YtbdhicjebeoakaaDoorTornW
import Derived.Test.YtbdhicjebeoakaaDoorBounds
import Derived.WalkKit
import Derived.ProofKit
import Derived.OpenShut
import Derived.ShutString
import Derived.ChangeOld
import Derived.Deep.DeepHandedRow
import Derived.Lib.LaidTab
import Derived.Lib.SmallJoins
set_option linter.unusedVariables false
namespace Go.Proofs.YtbdhicjebeoakaaDoor
open Go.Joins Go.ChangeShapes Go.WideShapes Go.RowKit Go.Deep Go.ChangeAt
open Go.ChangeMaps (open_string)

set_option maxRecDepth 50000 in
/-- A piece that came in. -/
theorem open_piece {H : Type} {enc : TypeId × Value → H} {W : World} {base b0 : Nat} {v : Value} {d : DataW H} {p : List MemPlace}
    (hval : Value.okWide Tryd.prog W .any base 24 v) (h : DataW.Trod enc Tryd.prog W b0 (fun _ => true) true 24 v d p) : ∃ q : Pc, v = .agg (pcV q) ∧ q.Ok := by
  obtain ⟨cs, rfl, hsz⟩ := okWide_struct Tryd.underlying24 hval
  have hc6 : Tryd.prog.cellsOf 24 = 6 := by kernel_rfl
  rw [hc6] at hsz
  obtain ⟨fuel, hf⟩ := h
  obtain ⟨xs, k, _, _, _, hlen, hF⟩ := DataW.trod_struct Tryd.underlying24 hf
  obtain ⟨l⟩ := cs
  match l, hsz, xs, hlen with
  | [c0, c1, c2, c3, c4, c5], _, [y0, y1, y2, y3, y4, y5], _ =>
  have h0 := hF 0 _ rfl
  have h1 := hF 1 _ rfl
  have h2 := hF 2 _ rfl
  have h3 := hF 3 _ rfl
  have h4 := hF 4 _ rfl
  have h5 := hF 5 _ rfl
  have m0 : Tryd.prog.cellsOf 22 = 1 := by kernel_rfl
  have m1 : Tryd.prog.cellsOf 3 = 1 := by kernel_rfl
  have m2 : Tryd.prog.cellsOf 9 = 1 := by kernel_rfl
  simp [Value.cells, m0, m1, m2] at h0 h1 h2 h3 h4 h5
  obtain ⟨z0, e0, _, b0⟩ := DataW.trod_int Tryd.underlying22 h0
  obtain ⟨z1, e1, _, b1⟩ := DataW.trod_int Tryd.underlying3 h1
  obtain ⟨z2, e2, _, b2⟩ := DataW.trod_int Tryd.underlying3 h2
  obtain ⟨z3, e3, _, b3⟩ := DataW.trod_int Tryd.underlying3 h3
  obtain ⟨z4, e4, _, b4⟩ := DataW.trod_int Tryd.underlying3 h4
  obtain ⟨z5, e5, _, b5⟩ := DataW.trod_string Tryd.underlying9 h5
  simp only [List.cons.injEq, and_true] at e0 e1 e2 e3 e4 e5
  subst e0 e1 e2 e3 e4 e5
  have hb := bd_u64 b0
  obtain ⟨m, rfl⟩ := Int.eq_ofNat_of_zero_le hb.1
  refine ⟨⟨m, z1, z2, z3, z4, z5.data.toList⟩, ?_, ⟨?_, ?_⟩⟩
  · simp [pcV]
  · simp only; omega
  · have h7 : z5.data.toList.length = z5.size := Array.length_toList
    show z5.data.toList.length ≤ _
    rw [h7]
    unfold maxLen at b5
    omega
/-! ### The witness: the two tables laid -/
def firstCells : Array Value := (Go.Pinned.utf8FirstZ.map fun (n : Nat) => Value.int .u8 (n : Int)).toArray
def acceptCells : Array Value := #[.int .u8 128, .int .u8 191, .int .u8 160, .int .u8 191, .int .u8 128, .int .u8 159, .int .u8 144, .int .u8 191, .int .u8 128, .int .u8 143,
  .int .u8 0, .int .u8 0, .int .u8 0, .int .u8 0, .int .u8 0, .int .u8 0, .int .u8 0, .int .u8 0, .int .u8 0, .int .u8 0, .int .u8 0, .int .u8 0, .int .u8 0, .int .u8 0, .int .u8 0, .int .u8 0, .int .u8 0, .int .u8 0, .int .u8 0, .int .u8 0, .int .u8 0, .int .u8 0]
noncomputable def laidWorld (os : Os) : World :=
  { World.holding Tryd.prog os ⟨#[], #[], []⟩ with heap := (((World.holding Tryd.prog os ⟨#[], #[], []⟩).heap.modify 0 (fun o => match o with
      | .cells _ t frozen => .cells firstCells t frozen
      | o => o)).modify 1 (fun o => match o with
      | .cells _ t frozen => .cells acceptCells t frozen
      | o => o)) }
end Go.Proofs.YtbdhicjebeoakaaDoor
