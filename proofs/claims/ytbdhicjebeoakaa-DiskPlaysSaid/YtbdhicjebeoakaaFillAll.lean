/- lockagelaw03.fill of a text of any length; and arguments that are rows of texts. -/
import Derived.Test.YtbdhicjebeoakaaAwake
set_option linter.unusedVariables false
set_option linter.unusedSimpArgs false
namespace Go.Proofs.Ytbdhicjebeoakaa
open Go.RowKit

theorem fill_all (s : ByteArray) (w : World) :
    Calls Try.prog 14 #[.string s] w fun e w' => e = .returned (.string ⟨(fillL s.data.toList).toArray⟩) ∧ w = w' := by
  by_cases h : s.size ≤ 140737488351232
  · exact fill_any s w h
  · go_enter Try.func14, Try.ntmps14
    go_wp2_with fail
    go_loop [0] (fun u => u = .string s) (fun u => 0)
    case atStart => rfl
    case round =>
      subst hrel
      have hlt : ¬ s.size < 64 := by omega
      go_wp2
      go_ret
      refine ⟨ret_str (ba_eq ?_), rfl⟩
      rw [ba_take]
      show _ = fillL _
      unfold fillL
      rw [List.take_append_of_le_length (by rw [← ba_size]; omega)]

theorem Own.under {W w w' : World} {b : Nat} {d : DSt} (h : Own w w' b d) (hb : Below W.heap.size W w) : Own W w' b d := by
  have hs := h.below.size
  have hs' := hb.size
  refine ⟨hb.trans (h.below.mono hs'), h.disk.grow (fun k hk => ⟨by have := hk.1; omega, hk.2⟩) (fun k hk => hk.2)⟩
/-- A row of n texts, in memory that is older than the call. -/
structure StrArg (w : World) (ad : Option Addr) (n : Nat) (x : Nat → ByteArray) : Prop where
  at_ : ∀ i, i < n → ∃ g off, ad = some ⟨g, off, none⟩ ∧ g < w.heap.size ∧ w.cell? ⟨g, off + i, none⟩ = some (.string (x i))
theorem StrArg.later {W w : World} {g off i n : Nat} {x : Nat → ByteArray} (h : StrArg W (some ⟨g, off, none⟩) n x) (hb : Below W.heap.size W w) (hi : i < n) : w.cell? ⟨g, off + i, none⟩ = some (.string (x i)) := by
  obtain ⟨g', off', e, hg, hc⟩ := h.at_ i hi
  simp only [Option.some.injEq, Addr.mk.injEq] at e
  obtain ⟨rfl, rfl, _⟩ := e
  rw [hb.cell (p := ⟨g, off + i, none⟩) hg]; exact hc
theorem StrArg.form {W : World} {ad : Option Addr} {n i : Nat} {x : Nat → ByteArray} (h : StrArg W ad n x) (hi : i < n) : ∃ g off, ad = some ⟨g, off, none⟩ := by
  obtain ⟨g, off, e, _⟩ := h.at_ i hi
  exact ⟨g, off, e⟩
end Go.Proofs.Ytbdhicjebeoakaa
