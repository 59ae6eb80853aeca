/- What lockagelaw03.DiskFlushed says, of the plain disk. -/
import Derived.Test.YtbdhicjebeoakaaAwake
set_option linter.unusedVariables false
set_option linter.unusedSimpArgs false
namespace Go.Proofs.Ytbdhicjebeoakaa

def ws (f : Nat → Nat) (g : Nat → List UInt8) (i : Nat) : List (Nat × List UInt8) := (List.range i).map fun j => (f j, g j)
theorem ws_succ (f : Nat → Nat) (g : Nat → List UInt8) (i : Nat) : ws f g (i + 1) = ws f g i ++ [(f i, g i)] := by simp [ws, List.range_succ]
theorem ws_length (f : Nat → Nat) (g : Nat → List UInt8) (i : Nat) : (ws f g i).length = i := by simp [ws]
/-- After i writes of texts g at places f, kept being K. -/
def stW (K : List (List UInt8)) (k : Int) (f : Nat → Nat) (g : Nat → List UInt8) (i : Nat) : DSt :=
  { kept := K, cache := ws f g i, off := false, armed := 0, bits := 0, writes := k + i }
theorem stW_write (K : List (List UInt8)) (k : Int) (f : Nat → Nat) (g : Nat → List UInt8) (i : Nat) (h : f i < K.length) (hg : (g i).length = 64) :
    (stW K k f g i).write (f i : Nat) (g i) = (0, stW K k f g (i + 1)) := by
  have hc : (stW K k f g i).check (f i : Nat) = 0 := by simp [DSt.check, stW]; omega
  unfold DSt.write
  rw [hc, if_neg (by simp), if_neg (by simp [hg]), if_pos (by simp [stW])]
  simp [stW, DSt.put, ws_succ]
  omega
theorem stW_flush (K : List (List UInt8)) (k : Int) (f : Nat → Nat) (g : Nat → List UInt8) (i : Nat) (f' : Nat → Nat) (g' : Nat → List UInt8) :
    (stW K k f g i).flush = (0, stW (keep (ws f g i) K) (k + i) f' g' 0) := by
  simp [DSt.flush, stW, ws]
theorem keep_ws_length (f : Nat → Nat) (g : Nat → List UInt8) (i : Nat) (K : List (List UInt8)) : (keep (ws f g i) K).length = K.length := keep_length _ _
theorem keep_ws (g : Nat → List UInt8) (K : List (List UInt8)) (x : Nat) (hx : x < K.length) : ∀ i, (keep (ws id g i) K).getD x [] = if x < i then g x else K.getD x []
  | 0 => by simp [ws, keep]
  | i + 1 => by
    rw [ws_succ, keep_snoc, List.getD_eq_getElem?_getD, List.getElem?_set]
    have ih := keep_ws g K x hx i
    by_cases h : i = x
    · subst h
      simp [keep_length, hx]
    · simp only [id, h, if_false]
      rw [← List.getD_eq_getElem?_getD, ih]
      by_cases h2 : x < i
      · simp [h2, show x < i + 1 by omega]
      · simp [h2, show ¬ x < i + 1 by omega]
theorem land_ws (bits : Int) (n : Nat) (g : Nat → List UInt8) (K : List (List UInt8)) (x : Nat) (hx : x < n) (hn : n = K.length) : ∀ i, i ≤ n →
    (land bits 0 (ws (fun j => n - 1 - j) g i) K).getD x [] = if n - 1 - x < i then mix (fate bits ((n - 1 - x : Nat) : Int)) (g (n - 1 - x)) (K.getD x []) else K.getD x []
  | 0, _ => by simp [ws, land]
  | i + 1, hi => by
    rw [ws_succ, land_snoc, List.getD_eq_getElem?_getD, List.getElem?_set]
    have ih := land_ws bits n g K x hx hn i (by omega)
    by_cases h : n - 1 - i = x
    · have hix : n - 1 - x = i := by omega
      rw [if_pos h, land_length, if_pos (by omega)]
      simp only [Option.getD_some, ws_length, Nat.zero_add, hix, Nat.lt_succ_self, if_true]
      rw [h, ih, hix]
      simp
    · rw [if_neg h, ← List.getD_eq_getElem?_getD, ih]
      by_cases h2 : n - 1 - x < i
      · rw [if_pos h2, if_pos (by omega)]
      · rw [if_neg h2, if_neg (by omega)]
theorem stW_crash (K : List (List UInt8)) (k : Int) (f : Nat → Nat) (g : Nat → List UInt8) (i : Nat) (bits : Int) : ((stW K k f g i).crash bits).kept = land bits 0 (ws f g i) K := by
  simp [DSt.crash, stW]
theorem stW_crash_off (K : List (List UInt8)) (k : Int) (f : Nat → Nat) (g : Nat → List UInt8) (i : Nat) (bits : Int) : ((stW K k f g i).crash bits).off = true := by
  simp [DSt.crash, stW]
theorem off_flush {d : DSt} (h : d.off = true) : d.flush = (5, d) := by simp [DSt.flush, h]
end Go.Proofs.Ytbdhicjebeoakaa
