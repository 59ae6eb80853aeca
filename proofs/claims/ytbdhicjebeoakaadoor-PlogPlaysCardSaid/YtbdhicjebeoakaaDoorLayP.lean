/- Texts as rows of sectors: plain data. -/
import Derived.Test.YtbdhicjebeoakaaDoorNextP
set_option linter.unusedVariables false
set_option linter.unusedSimpArgs false
namespace Go.Proofs.YtbdhicjebeoakaaDoor

def countOf (n : Nat) : Nat := if n ≤ 37 then 1 else (n - 1) / 37 + 1
def pieceAt (s : List UInt8) (st : Nat) (gen no : Int) (i : Nat) : Pc := ⟨st, gen, no, i, countOf s.length, (s.drop (37 * i)).take 37⟩
/-- A text's sectors. -/
def layL (s : List UInt8) (st : Nat) (gen no : Int) : List (List UInt8) := (List.range (countOf s.length)).map fun (i : Nat) => (pieceAt s st gen no i).print
/-- May it be laid? -/
def layOk (s : List UInt8) (gen no : Int) : Bool := decide (0 ≤ gen ∧ gen < 2147483648 ∧ 0 ≤ no ∧ no < 65536 ∧ countOf s.length < 65536)
theorem layOk_iff (s : List UInt8) (gen no : Int) : layOk s gen no = true ↔ 0 ≤ gen ∧ gen < 2147483648 ∧ 0 ≤ no ∧ no < 65536 ∧ countOf s.length < 65536 := by simp [layOk]
theorem countOf_pos (n : Nat) : 1 ≤ countOf n := by unfold countOf; split <;> omega
theorem countOf_up (n : Nat) : n ≤ 37 * countOf n := by unfold countOf; split <;> omega
theorem countOf_low (n i : Nat) (h : i < countOf n) : i = 0 ∨ 37 * i < n := by unfold countOf at h; split at h <;> omega
theorem layL_length (s : List UInt8) (st : Nat) (gen no : Int) : (layL s st gen no).length = countOf s.length := by simp [layL]
theorem layL_get (s : List UInt8) (st : Nat) (gen no : Int) (i : Nat) (h : i < countOf s.length) : (layL s st gen no)[i]? = some (pieceAt s st gen no i).print := by
  simp [layL, h]
theorem layL_take (s : List UInt8) (st : Nat) (gen no : Int) (i : Nat) (h : i < countOf s.length) : (layL s st gen no).take (i + 1) = (layL s st gen no).take i ++ [(pieceAt s st gen no i).print] := by
  have hl : i < (layL s st gen no).length := by rw [layL_length]; exact h
  rw [List.take_succ_eq_append_getElem hl]
  have := layL_get s st gen no i h
  rw [List.getElem?_eq_getElem hl] at this
  rw [Option.some.inj this]
theorem piece_right (s : List UInt8) (st : Nat) (gen no : Int) (i : Nat) (h : i < countOf s.length) (hok : layOk s gen no = true) : (pieceAt s st gen no i).right = true := by
  rw [layOk_iff] at hok
  rw [Pc.right_iff]
  simp only [pieceAt, List.length_take]
  omega
theorem piece_wrong (s : List UInt8) (st : Nat) (gen no : Int) (hok : layOk s gen no = false) : (pieceAt s st gen no 0).right = false := by
  rw [Bool.eq_false_iff]
  intro hr
  rw [Pc.right_iff] at hr
  simp only [pieceAt] at hr
  have : layOk s gen no = true := by rw [layOk_iff]; omega
  rw [this] at hok
  cases hok
end Go.Proofs.YtbdhicjebeoakaaDoor
