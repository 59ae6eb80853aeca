/- Pieces and sectors as plain data: what sector.Print, sector.Read and the reference's answer; no program, no memory. -/
set_option linter.unusedVariables false
set_option linter.unusedSimpArgs false
namespace Go.Proofs.YtbdhicjebeoakaaDoor

/-- A number's bytes, the great ones first. -/
def beL : Nat → Nat → List UInt8
  | 0, _ => []
  | k + 1, n => beL k (n / 256) ++ [UInt8.ofNat (n % 256)]
def valL (s : List UInt8) : Nat := s.foldl (fun n c => 256 * n + c.toNat) 0
theorem beL_length : ∀ (k n : Nat), (beL k n).length = k
  | 0, _ => rfl
  | k + 1, n => by simp [beL, beL_length k]
theorem valL_snoc (s : List UInt8) (c : UInt8) : valL (s ++ [c]) = 256 * valL s + c.toNat := by simp [valL, List.foldl_append]
theorem valL_nil : valL [] = 0 := rfl
theorem ofNat_toNat8 (n : Nat) : (UInt8.ofNat (n % 256)).toNat = n % 256 := by simp
theorem valL_beL : ∀ (k n : Nat), n < 256 ^ k → valL (beL k n) = n
  | 0, n, h => by simp at h; simp [beL, valL_nil, h]
  | k + 1, n, h => by
    rw [beL, valL_snoc, valL_beL k (n / 256) (by rw [Nat.pow_succ] at h; exact Nat.div_lt_of_lt_mul (by omega)), ofNat_toNat8]
    omega
theorem snocInd {α : Type} {P : List α → Prop} (h0 : P []) (h1 : ∀ s c, P s → P (s ++ [c])) (s : List α) : P s := by
  have : ∀ t : List α, P t.reverse := by
    intro t
    induction t with
    | nil => exact h0
    | cons c t ih => rw [List.reverse_cons]; exact h1 _ _ ih
  simpa using this s.reverse
theorem valL_lt (s : List UInt8) : valL s < 256 ^ s.length := by
  induction s using snocInd with
  | h0 => simp [valL]
  | h1 s c ih =>
    rw [valL_snoc, List.length_append, List.length_singleton, Nat.pow_succ]
    have := c.toNat_lt
    omega
theorem beL_valL (s : List UInt8) : beL s.length (valL s) = s := by
  induction s using snocInd with
  | h0 => rfl
  | h1 s c ih =>
    rw [List.length_append, List.length_singleton, beL, valL_snoc]
    have hc := c.toNat_lt
    rw [show (256 * valL s + c.toNat) / 256 = valL s by omega, show (256 * valL s + c.toNat) % 256 = c.toNat by omega, ih]
    simp

structure Pc where
  stamp : Nat
  gen : Int
  no : Int
  index : Int
  total : Int
  data : List UInt8
def Pc.zero : Pc := ⟨0, 0, 0, 0, 0, []⟩
def Pc.right (p : Pc) : Bool :=
  decide (0 ≤ p.gen ∧ p.gen < 2147483648 ∧ 0 ≤ p.no ∧ p.no < 65536 ∧ 0 ≤ p.total ∧ p.total < 65536 ∧ 0 ≤ p.index ∧ p.index < p.total ∧ p.data.length ≤ 37)
theorem Pc.right_iff (p : Pc) : p.right = true ↔ 0 ≤ p.gen ∧ p.gen < 2147483648 ∧ 0 ≤ p.no ∧ p.no < 65536 ∧ 0 ≤ p.total ∧ p.total < 65536 ∧ 0 ≤ p.index ∧ p.index < p.total ∧ p.data.length ≤ 37 := by simp [Pc.right]
/-- The sector of a piece. -/
def Pc.print (p : Pc) : List UInt8 :=
  beL 8 p.stamp ++ beL 4 p.gen.toNat ++ beL 2 p.no.toNat ++ beL 2 p.index.toNat ++ beL 2 p.total.toNat ++ beL 1 p.data.length ++ p.data ++ List.replicate (37 - p.data.length) 0 ++ beL 8 p.stamp
theorem Pc.print_length (p : Pc) (h : p.data.length ≤ 37) : p.print.length = 64 := by
  simp [Pc.print, beL_length]; omega
def sub (s : List UInt8) (a b : Nat) : List UInt8 := (s.take b).drop a
/-- The piece that a sector's bytes would be. -/
def pieceOf (s : List UInt8) : Pc :=
  { stamp := valL (sub s 0 8), gen := valL (sub s 8 12), no := valL (sub s 12 14), index := valL (sub s 14 16), total := valL (sub s 16 18), data := sub s 19 (19 + (s.getD 18 0).toNat) }
/-- As the reference reads. -/
def readR (s : List UInt8) : Option Pc :=
  if s.length ≠ 64 ∨ 37 < (s.getD 18 0).toNat then none else if (pieceOf s).right = true ∧ (pieceOf s).print = s then some (pieceOf s) else none
/-- As the program reads. -/
def readS (s : List UInt8) : Option Pc :=
  if s.length ≠ 64 ∨ sub s 0 8 ≠ s.drop 56 ∨ 37 < (s.getD 18 0).toNat then none
  else if (pieceOf s).right = true ∧ (sub s (19 + (s.getD 18 0).toNat) 56).all (· == 0) = true then some (pieceOf s) else none
theorem sub_length (s : List UInt8) (a b : Nat) (h : b ≤ s.length) : (sub s a b).length = b - a := by simp [sub]; omega
theorem sub_append (s : List UInt8) (a b c : Nat) (h1 : a ≤ b) (h2 : b ≤ c) (h3 : c ≤ s.length) : sub s a b ++ sub s b c = sub s a c := by
  unfold sub
  have : s.take b = (s.take c).take b := by rw [List.take_take, Nat.min_eq_left h2]
  rw [this]
  generalize s.take c = t
  have e1 : (t.take b).drop a = (t.drop a).take (b - a) := by rw [List.drop_take]
  have e2 : t.drop b = (t.drop a).drop (b - a) := by rw [List.drop_drop]; congr 1; omega
  rw [e1, e2, List.take_append_drop]
theorem sub_all (s : List UInt8) (n : Nat) (h : s.length = n) : sub s 0 n = s := by simp [sub, ← h]
theorem sub_to_end (s : List UInt8) (a n : Nat) (h : s.length = n) : sub s a n = s.drop a := by simp [sub, ← h]
theorem sub_one (s : List UInt8) (a : Nat) (h : a < s.length) : sub s a (a + 1) = [s.getD a 0] := by
  unfold sub
  rw [List.drop_take, show a + 1 - a = 1 by omega, List.getD_eq_getElem?_getD, List.getElem?_eq_getElem h, List.drop_eq_getElem_cons h]
  rfl
/-- A sector falls into its parts. -/
theorem parts (s : List UInt8) (h : s.length = 64) (L : Nat) (hL : L ≤ 37) :
    s = sub s 0 8 ++ sub s 8 12 ++ sub s 12 14 ++ sub s 14 16 ++ sub s 16 18 ++ sub s 18 19 ++ sub s 19 (19 + L) ++ sub s (19 + L) 56 ++ s.drop 56 := by
  rw [← sub_to_end s 56 64 h]
  rw [sub_append s 0 8 12 (by omega) (by omega) (by omega), sub_append s 0 12 14 (by omega) (by omega) (by omega), sub_append s 0 14 16 (by omega) (by omega) (by omega), sub_append s 0 16 18 (by omega) (by omega) (by omega),
    sub_append s 0 18 19 (by omega) (by omega) (by omega), sub_append s 0 19 (19 + L) (by omega) (by omega) (by omega), sub_append s 0 (19 + L) 56 (by omega) (by omega) (by omega), sub_append s 0 56 64 (by omega) (by omega) (by omega)]
  exact (sub_all s 64 h).symm
theorem be_sub (s : List UInt8) (a b : Nat) (k : Nat) (h : b ≤ s.length) (hk : b - a = k) : beL k (valL (sub s a b)) = sub s a b := by
  have := beL_valL (sub s a b)
  rwa [sub_length s a b h, hk] at this
theorem print_pieceOf (s : List UInt8) (h : s.length = 64) (L : Nat) (hL : L ≤ 37) (he : (s.getD 18 0).toNat = L) :
    (pieceOf s).print = sub s 0 8 ++ sub s 8 12 ++ sub s 12 14 ++ sub s 14 16 ++ sub s 16 18 ++ sub s 18 19 ++ sub s 19 (19 + L) ++ List.replicate (37 - L) 0 ++ sub s 0 8 := by
  have hd : (sub s 19 (19 + L)).length = L := by rw [sub_length s _ _ (by omega)]; omega
  have h1 : beL 1 L = sub s 18 19 := by
    rw [sub_one s 18 (by omega)]
    simp only [beL, List.nil_append]
    rw [Nat.mod_eq_of_lt (by omega), ← he]
    simp
  simp only [pieceOf, Pc.print, he, Int.toNat_natCast, hd, h1]
  rw [be_sub s 0 8 8 (by omega) rfl, be_sub s 8 12 4 (by omega) rfl, be_sub s 12 14 2 (by omega) rfl, be_sub s 14 16 2 (by omega) rfl, be_sub s 16 18 2 (by omega) rfl]
theorem all_zero_iff (t : List UInt8) (n : Nat) (h : t.length = n) : t.all (· == 0) = true ↔ t = List.replicate n 0 := by
  rw [List.all_eq_true]
  constructor
  · intro ha
    rw [List.eq_replicate_iff]
    exact ⟨h, fun c hc => by simpa using ha c hc⟩
  · rintro rfl c hc
    simp at hc
    simp [hc.2]
theorem readS_eq (s : List UInt8) : readS s = readR s := by
  unfold readS readR
  by_cases h : s.length = 64
  · by_cases h37 : 37 < (s.getD 18 0).toNat
    · rw [if_pos (.inr (.inr h37)), if_pos (.inr h37)]
    · generalize he : (s.getD 18 0).toNat = L at *
      have hL : L ≤ 37 := by omega
      have hp := print_pieceOf s h L hL he
      have hs := parts s h L hL
      have hz := all_zero_iff (sub s (19 + L) 56) (37 - L) (by rw [sub_length s _ _ (by omega)]; omega)
      have key : (pieceOf s).print = s ↔ (sub s (19 + L) 56).all (· == 0) = true ∧ sub s 0 8 = s.drop 56 := by
        rw [hp, hz]
        constructor
        · intro e
          have e1 := e.trans hs
          have l1 := sub_length s 0 8 (by omega)
          have l2 := sub_length s 8 12 (by omega)
          have l3 := sub_length s 12 14 (by omega)
          have l4 := sub_length s 14 16 (by omega)
          have l5 := sub_length s 16 18 (by omega)
          have l6 := sub_length s 18 19 (by omega)
          have l7 := sub_length s 19 (19 + L) (by omega)
          have l8 := sub_length s (19 + L) 56 (by omega)
          have e2 := List.append_inj e1 (by simp only [List.length_append, List.length_replicate, l1, l2, l3, l4, l5, l6, l7, l8]; omega)
          have e3 := List.append_inj e2.1 (by simp only [List.length_append, l1, l2, l3, l4, l5, l6, l7])
          exact ⟨e3.2.symm, e2.2⟩
        · rintro ⟨e1, e2⟩
          rw [e2, ← e1]
          rw [e2] at hs
          exact hs.symm
      have B : ¬ (s.length ≠ 64 ∨ 37 < L) := by omega
      by_cases h8 : sub s 0 8 = s.drop 56
      · have A : ¬ (s.length ≠ 64 ∨ sub s 0 8 ≠ s.drop 56 ∨ 37 < L) := by
          intro hh
          rcases hh with hh | hh | hh
          · exact hh h
          · exact hh h8
          · omega
        rw [if_neg A, if_neg B]
        simp only [key, h8, and_true]
      · have A : s.length ≠ 64 ∨ sub s 0 8 ≠ s.drop 56 ∨ 37 < L := .inr (.inl h8)
        have C : ¬ ((pieceOf s).right = true ∧ (pieceOf s).print = s) := by rw [key]; exact fun e => h8 e.2.2
        rw [if_pos A, if_neg B, if_neg C]
  · rw [if_pos (.inl h), if_pos (.inl h)]
end Go.Proofs.YtbdhicjebeoakaaDoor
