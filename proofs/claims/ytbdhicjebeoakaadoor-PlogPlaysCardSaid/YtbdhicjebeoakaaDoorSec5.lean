/- strings.Trim, of noughts. -/
import Derived.Test.YtbdhicjebeoakaaDoorSec4
set_option linter.unusedVariables false
set_option linter.unusedSimpArgs false
namespace Go.Proofs.YtbdhicjebeoakaaDoor
open Go.RowKit

def headOff (l : List UInt8) : List UInt8 := l.dropWhile (· == 0)
def endOff (l : List UInt8) : List UInt8 := (l.reverse.dropWhile (· == 0)).reverse
theorem sx {x y : ByteArray} (h : x.data.toList = y.data.toList) : x = y := by cases x; cases y; simp at h; simp [h]
theorem ext_tail (c : UInt8) (l : List UInt8) (n : Nat) (hn : n = l.length + 1) : (⟨(c :: l).toArray⟩ : ByteArray).extract 1 n = ⟨l.toArray⟩ := by
  apply sx
  rw [ByteArray.data_extract]
  simp [hn]
theorem ext_init (c : UInt8) (l : List UInt8) (n : Nat) (hn : n = l.length) : (⟨(l ++ [c]).toArray⟩ : ByteArray).extract 0 n = ⟨l.toArray⟩ := by
  apply sx
  rw [ByteArray.data_extract]
  simp [hn]
theorem headOff_zero (l : List UInt8) : headOff (0 :: l) = headOff l := by simp [headOff]
theorem headOff_stop (c : UInt8) (l : List UInt8) (h : c ≠ 0) : headOff (c :: l) = c :: l := by simp [headOff, h]
theorem endOff_zero (l : List UInt8) : endOff (l ++ [0]) = endOff l := by simp [endOff]
theorem endOff_stop (c : UInt8) (l : List UInt8) (h : c ≠ 0) : endOff (l ++ [c]) = l ++ [c] := by simp [endOff, h]
theorem c_zero {c : UInt8} (h : ¬ c = 0) : ((c.toNat : Int) == 0) = false := by
  have : c.toNat ≠ 0 := fun e => h (by rw [← UInt8.toNat_inj]; exact e)
  simp; omega
theorem trimLeft_any (l : List UInt8) (w : World) (hl : l.length ≤ 9223372036854775807) :
    Calls Tryd.prog 65 #[.string ⟨l.toArray⟩, .int .u8 0] w fun e w' => e = .returned (.string ⟨(headOff l).toArray⟩) ∧ w = w' := by
  go_enter Tryd.func65, Tryd.ntmps65
  go_wp2_with fail
  go_loopw [0] (fun s wr => ∃ t : List UInt8, s = .string ⟨t.toArray⟩ ∧ headOff t = headOff l ∧ t.length ≤ 9223372036854775807 ∧ w = wr) (fun s _ => match s with | .string t => t.size | _ => 0)
  case atStart => exact ⟨l, rfl, rfl, hl, rfl⟩
  case round =>
    obtain ⟨t, rfl, ht, htl, rfl⟩ := hrel
    have HT := Lib.hid ht
    clear ht
    match t, htl, HT with
    | [], htl, HT =>
      go_wp2_with fail
      go_ret
      refine ⟨ret_str (sx ?_), rfl⟩
      show [] = headOff l
      rw [← HT.out]; rfl
    | c :: t, htl, HT =>
      have hsz : (⟨(c :: t).toArray⟩ : ByteArray).size = t.length + 1 := by simp [ByteArray.size]
      have htl' : t.length + 1 ≤ 9223372036854775807 := by simpa using htl
      have hidx : ((⟨(c :: t).toArray⟩ : ByteArray)[0]'(by rw [hsz]; omega)).toNat = c.toNat := rfl
      by_cases hc : c = 0
      · subst hc
        have hx := ext_tail 0 t (t.length + 1) rfl
        go_wp2_with fail
        refine ⟨⟨t, rfl, ?_, by omega, trivial⟩, ?_⟩
        · rw [← HT.out, headOff_zero]
        · show (⟨t.toArray⟩ : ByteArray).size < (⟨(0 :: t).toArray⟩ : ByteArray).size
          rw [hsz]; simp [ByteArray.size]
      · have hc0 := c_zero hc
        have HC := Lib.hid hc
        clear hc
        go_wp2_with fail
        go_ret
        refine ⟨ret_str (sx ?_), rfl⟩
        show c :: t = headOff l
        rw [← HT.out, headOff_stop c t HC.out]
theorem trimRight_any (l : List UInt8) (w : World) (hl : l.length ≤ 9223372036854775807) :
    Calls Tryd.prog 66 #[.string ⟨l.toArray⟩, .int .u8 0] w fun e w' => e = .returned (.string ⟨(endOff l).toArray⟩) ∧ w = w' := by
  go_enter Tryd.func66, Tryd.ntmps66
  go_wp2_with fail
  go_loopw [0] (fun s wr => ∃ t : List UInt8, s = .string ⟨t.toArray⟩ ∧ endOff t = endOff l ∧ t.length ≤ 9223372036854775807 ∧ w = wr) (fun s _ => match s with | .string t => t.size | _ => 0)
  case atStart => exact ⟨l, rfl, rfl, hl, rfl⟩
  case round =>
    obtain ⟨t, rfl, ht, htl, rfl⟩ := hrel
    have HT := Lib.hid ht
    clear ht
    rcases List.eq_nil_or_concat t with rfl | ⟨t, c, hcat⟩
    · go_wp2_with fail
      go_ret
      refine ⟨ret_str (sx ?_), rfl⟩
      show [] = endOff l
      rw [← HT.out]; rfl
    · rw [List.concat_eq_append] at hcat
      subst hcat
      obtain ⟨b, hb⟩ : ∃ b : ByteArray, b = ⟨(t ++ [c]).toArray⟩ := ⟨_, rfl⟩
      have hsz : b.size = t.length + 1 := by rw [hb]; simp [ByteArray.size]
      have htl' : t.length + 1 ≤ 9223372036854775807 := by simpa using htl
      have hidx : (b[t.length]'(by rw [hsz]; omega)).toNat = c.toNat := by
        subst hb
        show (((t ++ [c]).toArray)[t.length]'_).toNat = c.toNat
        simp
      have e1 : ({ data := (t ++ [c]).toArray } : ByteArray) = b := hb.symm
      rw [e1]
      have HB := Lib.hid hb
      clear e1
      by_cases hc : c = 0
      · subst hc
        have hx : b.extract 0 t.length = ⟨t.toArray⟩ := by rw [hb]; exact ext_init 0 t t.length rfl
        clear hb
        go_wp2_with fail
        refine ⟨⟨t, rfl, ?_, by omega, trivial⟩, ?_⟩
        · rw [← HT.out, endOff_zero]
        · show (⟨t.toArray⟩ : ByteArray).size < b.size
          rw [hsz]; simp [ByteArray.size]
      · have hc0 := c_zero hc
        have HC := Lib.hid hc
        clear hc hb
        go_wp2_with fail
        go_ret
        refine ⟨ret_str (sx ?_), rfl⟩
        rw [HB.out]
        show t ++ [c] = endOff l
        rw [← HT.out, endOff_stop c t HC.out]
def trimL (l : List UInt8) : List UInt8 := headOff (endOff l)
theorem headOff_len (l : List UInt8) : (headOff l).length ≤ l.length := by
  unfold headOff
  induction l with
  | nil => simp
  | cons c t ih =>
    rw [List.dropWhile_cons]
    split
    · simp; omega
    · simp
theorem endOff_len (l : List UInt8) : (endOff l).length ≤ l.length := by
  unfold endOff
  rw [List.length_reverse]
  have := headOff_len l.reverse
  rw [List.length_reverse] at this
  exact this
theorem headOff_nil_iff (l : List UInt8) : headOff l = [] ↔ l.all (· == 0) = true := by
  unfold headOff
  induction l with
  | nil => simp
  | cons c t ih =>
    rw [List.dropWhile_cons]
    by_cases hc : c = 0
    · subst hc; simp [ih]
    · simp [hc]
theorem trimL_nil_iff (l : List UInt8) : trimL l = [] ↔ l.all (· == 0) = true := by
  unfold trimL
  rw [headOff_nil_iff]
  constructor
  · intro h
    by_cases hl : l.all (· == 0) = true
    · exact hl
    · exfalso
      have h1 : endOff l ≠ [] := by
        intro e
        apply hl
        have h2 : headOff l.reverse = [] := by
          have := congrArg List.reverse e
          simpa [endOff, headOff] using this
        rw [headOff_nil_iff, List.all_reverse] at h2
        exact h2
      have h3 : (headOff l.reverse).reverse.all (· == 0) = true := h
      rw [List.all_reverse] at h3
      have h4 : headOff l.reverse ≠ [] := by
        intro e
        apply h1
        show (headOff l.reverse).reverse = []
        rw [e]; rfl
      -- the first of what is left is no nought
      have h5 : ∀ m : List UInt8, headOff m ≠ [] → (headOff m).all (· == 0) = true → False := by
        intro m
        unfold headOff
        induction m with
        | nil => simp
        | cons c t ih =>
          rw [List.dropWhile_cons]
          by_cases hc : c = 0
          · subst hc; simpa using ih
          · simp [hc]
      exact h5 _ h4 h3
  · intro h
    have : endOff l = [] := by
      have h2 : headOff l.reverse = [] := by rw [headOff_nil_iff, List.all_reverse]; exact h
      show (headOff l.reverse).reverse = []
      rw [h2]; rfl
    rw [this]; rfl
set_option maxRecDepth 20000 in
theorem trim_any (l : List UInt8) (w : World) (hl : l.length ≤ 9223372036854775807) :
    Calls Tryd.prog 52 #[.string ⟨l.toArray⟩, .string ⟨#[0]⟩] w fun e w' => e = .returned (.string ⟨(trimL l).toArray⟩) ∧ Below w.heap.size w w' := by
  have hR := fun W => Lib.hid (trimRight_any l W hl)
  have hL := fun W => Lib.hid (trimLeft_any (endOff l) W (Nat.le_trans (endOff_len l) hl))
  by_cases h0 : l = []
  · subst h0
    clear hR hL
    go_enter Tryd.func52, Tryd.ntmps52
    go_wp2_with fail
    go_ret
    exact ⟨rfl, Below.refl _ _⟩
  · have hE : l.isEmpty = false := by cases l; exact absurd rfl h0; rfl
    have hb0 : (({ data := #[0] } : ByteArray)[0]'(by decide)).toNat = 0 := rfl
    clear h0
    go_enter Tryd.func52, Tryd.ntmps52
    go_wp2_with fail
    refine wp_still_tail 7 (by kernel_rfl) (by kernel_rfl) ?_
    simp only [List.take_succ_cons, List.take_zero, List.drop_succ_cons, List.drop_zero]
    iterate 3 still_step
    still_call ((hR _).out.mono fun e w'' h => ⟨h.1, h.2.symm⟩)
    iterate 2 still_step
    still_call ((hL _).out.mono fun e w'' h => ⟨h.1, h.2.symm⟩)
    refine wpStill_nil ?_
    go_wp2_with fail
    go_ret
    exact ⟨rfl, (Below.refl _ _).drew⟩
end Go.Proofs.YtbdhicjebeoakaaDoor
