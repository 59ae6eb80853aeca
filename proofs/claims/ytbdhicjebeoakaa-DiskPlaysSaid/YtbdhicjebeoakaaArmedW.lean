/- The walk of lockagelaw03.DiskArmed. -/
import Derived.Test.YtbdhicjebeoakaaAwake
import Derived.Test.YtbdhicjebeoakaaBounds
set_option linter.unusedVariables false
set_option linter.unusedSimpArgs false
namespace Go.Proofs.Ytbdhicjebeoakaa
open Go.RowKit

/-- After j good writes of a disk whose power is armed at the m-th. -/
def stA (m : Nat) (u : Int) (j : Nat) : DSt :=
  { kept := List.replicate 30 zeros64, cache := (List.range j).map fun i => (i, fillL [120]), off := false, armed := (m : Int) - j, bits := u, writes := j }
def endA (m : Nat) (u : Int) : DSt := ((stA m u (m - 1)).write ((m - 1 : Nat) : Int) (fillL [120])).2
def goA (m : Nat) (u : Int) : DSt := ((endA m u).start.write 0 (fillL [122])).2
theorem stA_zero (m : Nat) (u : Int) : (DSt.new 30).arm m u = stA m u 0 := by
  simp [DSt.arm, DSt.new, stA]
theorem stA_check (m : Nat) (u : Int) (j at_ : Nat) (ha : at_ < 30) : (stA m u j).check at_ = 0 := by
  simp [DSt.check, stA]; omega
theorem stA_write (m : Nat) (u : Int) (j : Nat) (h : j + 1 < m) (hm : m ≤ 30) : (stA m u j).write j (fillL [120]) = (0, stA m u (j + 1)) := by
  have hc := stA_check m u j j (by omega)
  unfold DSt.write
  rw [hc, if_neg (by simp), if_neg (by rw [fillL_length]; simp), if_neg (by simp [stA]; omega), if_pos (by simp [stA]; omega)]
  simp [stA, DSt.put, List.range_succ]
  omega
theorem stA_last (m : Nat) (u : Int) (h : 1 ≤ m) (hm : m ≤ 30) : (stA m u (m - 1)).write ((m - 1 : Nat) : Int) (fillL [120]) = (5, endA m u) := by
  have hc := stA_check m u (m - 1) (m - 1) (by omega)
  unfold endA DSt.write
  rw [hc, if_neg (by simp), if_neg (by rw [fillL_length]; simp), if_neg (by simp [stA]; omega), if_neg (by simp [stA]; omega)]
theorem endA_eq (m : Nat) (u : Int) (h : 1 ≤ m) (hm : m ≤ 30) : endA m u = ({ (stA m u (m - 1)).put (m - 1) (fillL [120]) with armed := (stA m u (m - 1)).armed - 1 } : DSt).crash u := by
  have hc := stA_check m u (m - 1) (m - 1) (by omega)
  unfold endA DSt.write
  rw [hc, if_neg (by simp), if_neg (by rw [fillL_length]; simp), if_neg (by simp [stA]; omega), if_neg (by simp [stA]; omega)]
  rfl
theorem endA_off (m : Nat) (u : Int) (h : 1 ≤ m) (hm : m ≤ 30) : (endA m u).off = true := by
  rw [endA_eq m u h hm]; simp [DSt.crash, stA, DSt.put]
theorem endA_writes (m : Nat) (u : Int) (h : 1 ≤ m) (hm : m ≤ 30) : (endA m u).writes = m := by
  rw [endA_eq m u h hm]; simp [DSt.crash, stA, DSt.put]; omega
theorem endA_len (m : Nat) (u : Int) (h : 1 ≤ m) (hm : m ≤ 30) : (endA m u).kept.length = 30 := by
  rw [endA_eq m u h hm]; simp [DSt.crash, stA, DSt.put, land_length]
theorem endA_write (m : Nat) (u : Int) (s : List UInt8) (h : 1 ≤ m) (hm : m ≤ 30) : (endA m u).write 0 s = (5, endA m u) := by
  have hc : (endA m u).check 0 = 5 := by simp [DSt.check, endA_off m u h hm]
  unfold DSt.write
  rw [hc, if_pos (by simp)]
theorem goA_write (m : Nat) (u : Int) (h : 1 ≤ m) (hm : m ≤ 30) : (endA m u).start.write 0 (fillL [122]) = (0, goA m u) := by
  have hc : (endA m u).start.check 0 = 0 := by simp [DSt.check, DSt.start, endA_len m u h hm]
  unfold goA DSt.write
  rw [hc, if_neg (by simp), if_neg (by rw [fillL_length]; simp), if_pos (by simp [DSt.start])]
theorem stA_write' (m : Nat) (u : Int) (i : Nat) (h1 : 1 ≤ i) (h : i < m) (hm : m ≤ 30) : (stA m u (i - 1)).write ((i : Int) - 1) (fillL [120]) = (0, stA m u i) := by
  have := stA_write m u (i - 1) (by omega) hm
  rw [show ((i - 1 : Nat) : Int) = (i : Int) - 1 by omega, show i - 1 + 1 = i by omega] at this
  exact this
theorem stA_last' (m : Nat) (u : Int) (h : 1 ≤ m) (hm : m ≤ 30) : (stA m u (m - 1)).write ((m : Int) - 1) (fillL [120]) = (5, endA m u) := by
  have := stA_last m u h hm
  rwa [show ((m - 1 : Nat) : Int) = (m : Int) - 1 by omega] at this
theorem own_down_to {W w : World} {b : Nat} {c : Bool} {d : DSt} (h : Own W w b d) (hn : d.off = c) :
    Calls Try.prog 28 #[.pointer (some ⟨b, 0, none⟩)] w fun e w' => e = .returned (.bool c) ∧ w = w' := by
  have := down_any h.disk
  rw [hn] at this
  exact this
theorem armed_slot (n : Int) : ∃ m : Nat, 1 ≤ m ∧ m ≤ 30 ∧ wrap64 (1 + wrap64 ((IntKind.u64.wrap n).tmod 30)) = (m : Int) := by
  have h0 : 0 ≤ IntKind.u64.wrap n := by simp [IntKind.wrap, IntKind.bits, IntKind.signed]; omega
  have h1 : 0 ≤ (IntKind.u64.wrap n).tmod 30 := Int.tmod_nonneg _ h0
  have h2 : (IntKind.u64.wrap n).tmod 30 < 30 := Int.tmod_lt_of_pos _ (by decide)
  refine ⟨(1 + (IntKind.u64.wrap n).tmod 30).toNat, by omega, by omega, ?_⟩
  generalize (IntKind.u64.wrap n).tmod 30 = x at *
  unfold wrap64
  omega
set_option maxHeartbeats 1000000 in
theorem armed_walk (n u : Int) (w : World) (hu : 0 ≤ u ∧ u ≤ 18446744073709551615) :
    Calls Try.prog 8 #[.int .i64 n, .int .u64 u] w fun e w' => e = .returned (.bool true) ∧ Below w.heap.size w w' := by
  obtain ⟨m, hm1, hm2, he⟩ := armed_slot n
  go_enter Try.func8, Try.ntmps8
  go_wp2_with fail
  refine (own_new 30 w (by decide) (by decide)).mono ?_
  rintro e w1 ⟨b, rfl, h0⟩
  have H0 := Lib.hid h0
  clear h0
  go_wp2_with fail
  refine (awake_any _).mono ?_
  rintro e w2 ⟨rfl, hB⟩
  have H1 := Lib.hid (H0.out.later hB)
  clear H0 hB
  go_wp2_with fail
  refine (own_arm H1.out m u (by omega) hu.1 hu.2).mono ?_
  rintro e w3 ⟨rfl, h2⟩
  have H2 := Lib.hid h2
  clear h2 H1
  go_wp2_with fail
  have hF1 := fun W => Lib.hid (fill_any ⟨#[120]⟩ W (by decide))
  have hF2 := fun W => Lib.hid (fill_any ⟨#[121]⟩ W (by decide))
  have hF3 := fun W => Lib.hid (fill_any ⟨#[122]⟩ W (by decide))
  rw [stA_zero] at H2
  go_loopw [7] (fun p wr => ∃ i : Nat, p = .int .i64 (i : Int) ∧ 1 ≤ i ∧ i ≤ m ∧ Own w wr b (stA m u (i - 1))) (fun p wr => match p with | .int _ i => m - i.toNat | _ => 0)
  case atStart => exact ⟨1, rfl, by omega, by omega, H2.out⟩
  case round =>
    obtain ⟨i, rfl, hi1, hi2, hO⟩ := hrel
    have HO := Lib.hid hO
    clear hO H2
    by_cases hlt : i < m
    · go_wp2_with (go_at_call 14; refine (hF1 _).out.mono ?_; rintro e w' ⟨rfl, rfl⟩)
      refine (own_write_to HO.out (stA_write' m u i hi1 hlt hm2) (by simp [stA]; omega)).mono ?_
      rintro e w4 ⟨rfl, h4⟩
      have H4 := Lib.hid h4
      clear h4 HO
      go_wp2_with (go_at_call 28; refine (own_down_to H4.out (c := false) rfl).mono ?_; rintro e w' ⟨rfl, rfl⟩)
      go_round
      case rel => exact ⟨i + 1, rfl, by omega, by omega, H4.out⟩
      case measure =>
        show m - ((i : Int) + 1).toNat < m - (i : Int).toNat
        omega
    · obtain rfl : i = m := by omega
      go_wp2_with (go_at_call 14; refine (hF1 _).out.mono ?_; rintro e w' ⟨rfl, rfl⟩)
      refine (own_write_to HO.out (stA_last' i u hi1 hm2) (by simp [stA]; omega)).mono ?_
      rintro e w4 ⟨rfl, h4⟩
      have H4 := Lib.hid h4
      clear h4 HO
      go_wp2_with (first | (go_at_call 28; refine (own_down_to H4.out (endA_off i u hi1 hm2)).mono ?_; rintro e w' ⟨rfl, rfl⟩) | (go_at_call 14; refine (hF2 _).out.mono ?_; rintro e w' ⟨rfl, rfl⟩))
      refine (own_write_to H4.out (endA_write i u _ hi1 hm2) (by rw [endA_writes i u hi1 hm2]; omega)).mono ?_
      rintro e w5 ⟨rfl, h5⟩
      have H5 := Lib.hid h5
      clear h5 H4
      go_wp2_with (go_at_call 17; refine (own_writes_to H5.out (endA_writes i u hi1 hm2)).mono ?_; rintro e w' ⟨rfl, rfl⟩)
      refine (own_start H5.out).mono ?_
      rintro e w6 ⟨rfl, h6⟩
      have H6 := Lib.hid h6
      clear h6 H5
      go_wp2_with (first | (go_at_call 28; refine (own_down_to H6.out (c := false) rfl).mono ?_; rintro e w' ⟨rfl, rfl⟩) | (go_at_call 14; refine (hF3 _).out.mono ?_; rintro e w' ⟨rfl, rfl⟩))
      refine (own_write_to H6.out (goA_write i u hi1 hm2) (by show (endA i u).writes < _; rw [endA_writes i u hi1 hm2]; omega)).mono ?_
      rintro e w7 ⟨rfl, h7⟩
      have H7 := Lib.hid h7
      clear h7 H6
      go_wp2_with fail
      go_ret
      exact ⟨rfl, H7.out.below⟩
end Go.Proofs.Ytbdhicjebeoakaa
