/- What sector.Next and the reference's Next answer, over a list of sectors: plain data. -/
import Derived.Test.YtbdhicjebeoakaaDoorSecP
set_option linter.unusedVariables false
set_option linter.unusedSimpArgs false
namespace Go.Proofs.YtbdhicjebeoakaaDoor

def partB (p f : Pc) (i : Int) : Bool :=
  decide (((i = p.total - 1 ∧ (i = 0 ∨ p.data ≠ [])) ∨ p.data.length = 37) ∧ p.index = i ∧ p.stamp = f.stamp ∧ p.total = f.total)
theorem partB_iff (p f : Pc) (i : Int) : partB p f i = true ↔ (((i = p.total - 1 ∧ (i = 0 ∨ p.data ≠ [])) ∨ p.data.length = 37) ∧ p.index = i ∧ p.stamp = f.stamp ∧ p.total = f.total) := by simp only [partB, decide_eq_true_eq]
def nextL (gen no : Int) : List (List UInt8) → Nat → List UInt8 → Pc → Option (List UInt8 × Nat)
  | [], _, _, _ => none
  | s :: r, i, acc, first =>
    match readR s with
    | none => none
    | some p =>
      if p.gen = gen ∧ p.no = no ∧ partB p (if i = 0 then p else first) (i : Int) = true then
        if (i : Int) + 1 = p.total then some (acc ++ p.data, i + 1) else nextL gen no r (i + 1) (acc ++ p.data) (if i = 0 then p else first)
      else none
theorem nextL_none {gen no : Int} {s : List UInt8} {r : List (List UInt8)} {i : Nat} {acc : List UInt8} {f : Pc} (h : readR s = none) : nextL gen no (s :: r) i acc f = none := by
  rw [nextL, h]
theorem nextL_bad {gen no : Int} {s : List UInt8} {r : List (List UInt8)} {i : Nat} {acc : List UInt8} {f p : Pc} (h : readR s = some p) (hb : ¬ (p.gen = gen ∧ p.no = no ∧ partB p (if i = 0 then p else f) (i : Int) = true)) : nextL gen no (s :: r) i acc f = none := by
  rw [nextL, h]
  exact if_neg hb
theorem nextL_end {gen no : Int} {s : List UInt8} {r : List (List UInt8)} {i : Nat} {acc : List UInt8} {f p : Pc} (h : readR s = some p) (hb : p.gen = gen ∧ p.no = no ∧ partB p (if i = 0 then p else f) (i : Int) = true) (ht : (i : Int) + 1 = p.total) : nextL gen no (s :: r) i acc f = some (acc ++ p.data, i + 1) := by
  rw [nextL, h]
  exact (if_pos hb).trans (if_pos ht)
theorem nextL_on {gen no : Int} {s : List UInt8} {r : List (List UInt8)} {i : Nat} {acc : List UInt8} {f p : Pc} (h : readR s = some p) (hb : p.gen = gen ∧ p.no = no ∧ partB p (if i = 0 then p else f) (i : Int) = true) (ht : ¬ (i : Int) + 1 = p.total) : nextL gen no (s :: r) i acc f = nextL gen no r (i + 1) (acc ++ p.data) (if i = 0 then p else f) := by
  rw [nextL, h]
  exact (if_pos hb).trans (if_neg ht)
/-- The sectors that stand from a place on. -/
def rowOf (F : Int → List UInt8) (a : Int) (n : Nat) : List (List UInt8) := (List.range n).map fun (j : Nat) => F (a + (j : Int))
theorem rowOf_drop (F : Int → List UInt8) (a : Int) (n i : Nat) (h : i < n) : (rowOf F a n).drop i = F (a + i) :: (rowOf F a n).drop (i + 1) := by
  rw [List.drop_eq_getElem_cons (by simpa [rowOf] using h)]
  simp [rowOf]
theorem rowOf_end (F : Int → List UInt8) (a : Int) (n i : Nat) (h : n ≤ i) : (rowOf F a n).drop i = [] := by
  rw [List.drop_eq_nil_of_le]
  simpa [rowOf] using h
/-- So many sectors may be asked for. -/
def room (a e : Int) : Nat := if 0 ≤ a then (e - a).toNat else 0
def nextAll (F : Int → List UInt8) (a e gen no : Int) : Option (List UInt8 × Nat) := nextL gen no (rowOf F a (room a e)) 0 [] Pc.zero
theorem valL8_lt (s : List UInt8) (h : s.length = 64) : valL (sub s 0 8) < 256 ^ 8 := by
  have := valL_lt (sub s 0 8)
  rwa [sub_length s 0 8 (by omega)] at this
theorem readR_some {s : List UInt8} {p : Pc} (h : readR s = some p) : p.right = true ∧ p.print = s ∧ p.stamp < 18446744073709551616 := by
  unfold readR at h
  by_cases h1 : s.length ≠ 64 ∨ 37 < (s.getD 18 0).toNat
  · rw [if_pos h1] at h; cases h
  · rw [if_neg h1] at h
    by_cases h2 : (pieceOf s).right = true ∧ (pieceOf s).print = s
    · rw [if_pos h2] at h
      have h := Option.some.inj h
      rw [← h]
      refine ⟨h2.1, h2.2, ?_⟩
      have h64 : s.length = 64 := Classical.byContradiction fun e => h1 (.inl e)
      exact valL8_lt s h64
    · rw [if_neg h2] at h; cases h
end Go.Proofs.YtbdhicjebeoakaaDoor
