/- A text's sectors give the text back, wherever they stand; cut short, or asked for with another number, they give none. -/
import Derived.Test.YtbdhicjebeoakaaDoorSecQ
set_option linter.unusedVariables false
set_option linter.unusedSimpArgs false
namespace Go.Proofs.YtbdhicjebeoakaaDoor

variable {s : List UInt8} {st : Nat} {gen no : Int}
theorem piece_stamp (i : Nat) : (pieceAt s st gen no i).stamp = st := rfl
theorem readR_lay (i : Nat) (h : i < countOf s.length) (hok : layOk s gen no = true) (hst : st < 18446744073709551616) : readR (pieceAt s st gen no i).print = some (pieceAt s st gen no i) :=
  readR_print _ (piece_right s st gen no i h hok) hst
theorem piece_part (i : Nat) (h : i < countOf s.length) : partB (pieceAt s st gen no i) (if i = 0 then pieceAt s st gen no i else pieceAt s st gen no 0) (i : Int) = true := by
  rw [partB_iff]
  have hc := h
  unfold countOf at hc
  have hd : (pieceAt s st gen no i).data.length = min 37 (s.length - 37 * i) := by simp [pieceAt]
  refine ⟨?_, rfl, ?_, ?_⟩
  · by_cases hi : i + 1 = countOf s.length
    · refine .inl ⟨?_, ?_⟩
      · show (i : Int) = (countOf s.length : Int) - 1
        omega
      · by_cases h0 : i = 0
        · exact .inl (by omega)
        · refine .inr (fun e => ?_)
          rw [e] at hd
          simp only [List.length_nil] at hd
          split at hc <;> omega
    · refine .inr ?_
      rw [hd]
      by_cases h37 : s.length ≤ 37
      · rw [if_pos h37] at hc
        have : countOf s.length = 1 := by unfold countOf; rw [if_pos h37]
        omega
      · rw [if_neg h37] at hc
        have : countOf s.length = (s.length - 1) / 37 + 1 := by unfold countOf; rw [if_neg h37]
        omega
  · split <;> rfl
  · split <;> rfl
theorem lay_drop (i : Nat) (h : i < countOf s.length) : (layL s st gen no).drop i = (pieceAt s st gen no i).print :: (layL s st gen no).drop (i + 1) := by
  have hl : i < (layL s st gen no).length := by rw [layL_length]; exact h
  rw [List.drop_eq_getElem_cons hl]
  have := layL_get s st gen no i h
  rw [List.getElem?_eq_getElem hl] at this
  rw [Option.some.inj this]
theorem next_lay (hok : layOk s gen no = true) (hst : st < 18446744073709551616) (rest : List (List UInt8)) :
    ∀ (m i : Nat) (acc : List UInt8) (f : Pc), i + m + 1 = countOf s.length → (i ≠ 0 → f = pieceAt s st gen no 0) → nextL gen no ((layL s st gen no).drop i ++ rest) i acc f = some (acc ++ s.drop (37 * i), countOf s.length) := by
  intro m
  induction m with
  | zero =>
    intro i acc f hi hf
    have hlt : i < countOf s.length := by omega
    have hfi : (if i = 0 then pieceAt s st gen no i else f) = (if i = 0 then pieceAt s st gen no i else pieceAt s st gen no 0) := by
      split
      · rfl
      · rename_i h; rw [hf h]
    rw [lay_drop i hlt, List.cons_append, nextL_end (gen := gen) (no := no) (readR_lay i hlt hok hst) ⟨rfl, rfl, by rw [hfi]; exact piece_part i hlt⟩ (by show (i : Int) + 1 = (countOf s.length : Int); omega)]
    have hup := countOf_up s.length
    have hd : (pieceAt s st gen no i).data = s.drop (37 * i) := by
      show (s.drop (37 * i)).take 37 = _
      exact List.take_of_length_le (by rw [List.length_drop]; omega)
    rw [hd, show i + 1 = countOf s.length by omega]
  | succ m ih =>
    intro i acc f hi hf
    have hlt : i < countOf s.length := by omega
    have hfi : (if i = 0 then pieceAt s st gen no i else f) = (if i = 0 then pieceAt s st gen no i else pieceAt s st gen no 0) := by
      split
      · rfl
      · rename_i h; rw [hf h]
    rw [lay_drop i hlt, List.cons_append, nextL_on (gen := gen) (no := no) (readR_lay i hlt hok hst) ⟨rfl, rfl, by rw [hfi]; exact piece_part i hlt⟩ (by show ¬ (i : Int) + 1 = (countOf s.length : Int); omega)]
    rw [ih (i + 1) _ _ (by omega) (fun _ => ?_)]
    · have hd : (pieceAt s st gen no i).data = (s.drop (37 * i)).take 37 := rfl
      have e : s.drop (37 * i) = (s.drop (37 * i)).take 37 ++ s.drop (37 * (i + 1)) := by
        have h3 : s.drop (37 * (i + 1)) = (s.drop (37 * i)).drop 37 := by rw [List.drop_drop]; rfl
        rw [h3, List.take_append_drop]
      rw [List.append_assoc, hd, ← e]
    · rw [hfi]
      by_cases h0 : i = 0
      · rw [if_pos h0, h0]
      · rw [if_neg h0]
/-- All of it. -/
theorem next_whole (hok : layOk s gen no = true) (hst : st < 18446744073709551616) (rest : List (List UInt8)) (f : Pc) : nextL gen no (layL s st gen no ++ rest) 0 [] f = some (s, countOf s.length) := by
  have hp := countOf_pos s.length
  have := next_lay (s := s) (st := st) (gen := gen) (no := no) hok hst rest (countOf s.length - 1) 0 [] f (by omega) (fun h => absurd rfl h)
  simpa using this
/-- The last one is wanting. -/
theorem next_short (hok : layOk s gen no = true) (hst : st < 18446744073709551616) (k : Nat) (hk : k < countOf s.length) :
    ∀ (m i : Nat) (acc : List UInt8) (f : Pc), i + m = k → (i ≠ 0 → f = pieceAt s st gen no 0) → nextL gen no (((layL s st gen no).take k).drop i) i acc f = none := by
  intro m
  induction m with
  | zero =>
    intro i acc f hi hf
    rw [List.drop_eq_nil_of_le (by rw [List.length_take]; omega)]
    rfl
  | succ m ih =>
    intro i acc f hi hf
    have hlt : i < countOf s.length := by omega
    have hfi : (if i = 0 then pieceAt s st gen no i else f) = (if i = 0 then pieceAt s st gen no i else pieceAt s st gen no 0) := by
      split
      · rfl
      · rename_i h; rw [hf h]
    have hd : ((layL s st gen no).take k).drop i = (pieceAt s st gen no i).print :: ((layL s st gen no).take k).drop (i + 1) := by
      have hl : i < ((layL s st gen no).take k).length := by rw [List.length_take, layL_length]; omega
      rw [List.drop_eq_getElem_cons hl]
      have := layL_get s st gen no i hlt
      have h2 : ((layL s st gen no).take k)[i]? = some (pieceAt s st gen no i).print := by rw [List.getElem?_take, if_pos (by omega)]; exact this
      rw [List.getElem?_eq_getElem hl] at h2
      rw [Option.some.inj h2]
    rw [hd, nextL_on (gen := gen) (no := no) (readR_lay i hlt hok hst) ⟨rfl, rfl, by rw [hfi]; exact piece_part i hlt⟩ (by show ¬ (i : Int) + 1 = (countOf s.length : Int); omega)]
    refine ih (i + 1) _ _ (by omega) (fun _ => ?_)
    rw [hfi]
    by_cases h0 : i = 0
    · rw [if_pos h0, h0]
    · rw [if_neg h0]
/-- Another number, or another generation. -/
theorem next_other (hok : layOk s gen no = true) (hst : st < 18446744073709551616) (g' n' : Int) (hne : gen ≠ g' ∨ no ≠ n') (rest : List (List UInt8)) (acc : List UInt8) (f : Pc) : nextL g' n' (layL s st gen no ++ rest) 0 acc f = none := by
  have hp := countOf_pos s.length
  have h := lay_drop (s := s) (st := st) (gen := gen) (no := no) 0 (by omega)
  rw [List.drop_zero] at h
  rw [h, List.cons_append]
  refine nextL_bad (readR_lay 0 (by omega) hok hst) (fun hh => ?_)
  have h1 : gen = g' := hh.1
  have h2 : no = n' := hh.2.1
  rcases hne with h | h
  · exact h h1
  · exact h h2
end Go.Proofs.YtbdhicjebeoakaaDoor
