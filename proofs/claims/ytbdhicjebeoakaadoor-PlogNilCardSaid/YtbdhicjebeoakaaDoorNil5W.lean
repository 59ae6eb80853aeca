/- The walk of lockagelaw05.PlogNil. -/
import Derived.Test.YtbdhicjebeoakaaDoorAw5
set_option linter.unusedVariables false
set_option linter.unusedSimpArgs false
namespace Go.Proofs.YtbdhicjebeoakaaDoor
open Go.RowKit

theorem nil_down {w W : World} {db : Nat} (h : Own W w db ((DSt.new 8).crash 0)) : Calls Tryd.prog 30 #[.pointer (some ⟨db, 0, none⟩), .int .i64 0, .int .i64 1, .int .u32 0] w fun e w' => e = .returned (.tuple #[.pointer none, .int .i64 5]) ∧ w' = w :=
  open_down h.disk 0 1 0 (by decide) (by decide) (by decide) rfl
theorem nil_open_ok {w W : World} {db : Nat} {base half : Int} (h : Own W w db (DSt.new 8)) (h1 : 1 ≤ half) (h2 : half ≤ 4) (h3 : 0 ≤ base) (h4 : base ≤ 8 - 2 * half) :
    Calls Tryd.prog 30 #[.pointer (some ⟨db, 0, none⟩), .int .i64 base, .int .i64 half, .int .u32 0] w fun e w' => ∃ lb, e = .returned (.tuple #[.pointer (some ⟨lb, 0, none⟩), .int .i64 0]) ∧ Below w.heap.size w w' := by
  obtain ⟨b, rfl⟩ := Int.eq_ofNat_of_zero_le h3
  obtain ⟨k, rfl⟩ := Int.eq_ofNat_of_zero_le (show 0 ≤ half by omega)
  refine (open_ok h.disk b k 0 (by omega) (by omega) (by simp [DSt.new]; omega) (by decide) rfl).mono ?_
  rintro e w' ⟨lb, rfl, hb, _⟩
  exact ⟨lb, rfl, hb⟩
theorem nil_open_bad {w W : World} {db : Nat} {base half : Int} (h : Own W w db (DSt.new 8)) (hb : -9223372036854775808 ≤ base ∧ base ≤ 9223372036854775807) (hh : -9223372036854775808 ≤ half ∧ half ≤ 9223372036854775807) (hno : ¬ (1 ≤ half ∧ half ≤ 4 ∧ 0 ≤ base ∧ base ≤ 8 - 2 * half)) :
    Calls Tryd.prog 30 #[.pointer (some ⟨db, 0, none⟩), .int .i64 base, .int .i64 half, .int .u32 0] w fun e w' => e = .returned (.tuple #[.pointer none, .int .i64 1]) ∧ w' = w := by
  refine open_arg h.disk base half 0 hb hh ?_
  refine decide_eq_false (fun hx => hno ?_)
  simp [DSt.new] at hx
  omega
set_option maxRecDepth 20000 in
set_option maxHeartbeats 4000000 in
theorem nil5_walk (s : ByteArray) (base half : Int) (w : World) (hs : s.size ≤ 9223372036854775807) (hb : -9223372036854775808 ≤ base ∧ base ≤ 9223372036854775807) (hh : -9223372036854775808 ≤ half ∧ half ≤ 9223372036854775807) :
    Calls Tryd.prog 7 #[.string s, .int .i64 base, .int .i64 half] w fun e w' => e = .returned (.bool true) ∧ Below w.heap.size w w' := by
  have HAW := fun W => Lib.hid (awake5_ok W)
  have HBB := Lib.hid hb
  have HHH := Lib.hid hh
  clear hb hh
  go_enter Tryd.func7, Tryd.ntmps7
  go_wp2_with fail
  refine (HAW _).out.mono ?_
  rintro e w1 ⟨rfl, hb1⟩
  have HB1 := Lib.hid hb1
  clear hb1
  by_cases h3 : (300 : Int) < (s.size : Int)
  case pos =>
    go_wp2_with fail
    refine (HAW _).out.mono ?_
    rintro e w2 ⟨rfl, hb2⟩
    have HB2 := Lib.hid (HB1.out.trans (hb2.mono HB1.out.size))
    clear hb2
    go_wp2_with fail
    go_ret
    exact ⟨rfl, HB2.out⟩
  have HS := Lib.hid (show s.size ≤ 300 by omega)
  go_wp2_with fail
  refine (own_new 8 _ (by decide) (by decide)).mono ?_
  rintro e w2 ⟨db, rfl, h1⟩
  have H1 := Lib.hid h1
  clear h1 h3
  by_cases hok : 1 ≤ half ∧ half ≤ 4 ∧ 0 ≤ base ∧ base ≤ 8 - 2 * half
  case pos =>
    obtain ⟨h5, h6, h7, h8⟩ := hok
    go_wp2_with fail
    refine (nil_open_ok H1.out h5 h6 h7 h8).mono ?_
    rintro e w3 ⟨lb, rfl, hb3⟩
    have H1 := Lib.hid (H1.out.later hb3)
    clear hb3
    have hm : wrap64 (8 - wrap64 (2 * half)) = 8 - 2 * half := by unfold wrap64; omega
    go_wp2_with fail
    refine (own_crash H1.out 0 (by decide) (by decide)).mono ?_
    rintro e w4 ⟨rfl, h4⟩
    have H4 := Lib.hid h4
    clear h4 H1
    go_wp2_with fail
    refine (nil_down H4.out).mono ?_
    rintro e w' ⟨rfl, rfl⟩
    go_wp2_with fail
    refine (append_nil _ _ _).mono ?_
    rintro e w' ⟨rfl, rfl⟩
    go_wp2_with fail
    refine (base_nil _).mono ?_
    rintro e w' ⟨rfl, rfl⟩
    go_wp2_with fail
    refine (records_nil _).mono ?_
    rintro e w' ⟨rfl, rfl⟩
    go_wp2_with fail
    refine (gen_nil _).mono ?_
    rintro e w' ⟨rfl, rfl⟩
    go_wp2_with fail
    refine (room_nil _).mono ?_
    rintro e w' ⟨rfl, rfl⟩
    go_wp2_with fail
    refine (sectors_any _ _ (by have := HS.out; omega)).mono ?_
    rintro e w' ⟨rfl, rfl⟩
    go_wp2_with fail
    refine (rcount_any _ _ (by omega) (by have := HS.out; omega)).mono ?_
    rintro e w' ⟨rfl, rfl⟩
    rw [Int.toNat_natCast]
    generalize countOf s.size = cn
    have hcn : ((cn : Int) == (cn : Int)) = true := by simp
    go_wp2_with fail
    go_ret
    exact ⟨rfl, HB1.out.trans (H4.out.below.mono HB1.out.size)⟩
  case neg =>
    go_wp2_with fail
    refine (nil_open_bad H1.out HBB.out HHH.out hok).mono ?_
    rintro e w' ⟨rfl, rfl⟩
    rcases (show half < 1 ∨ (1 ≤ half ∧ 4 < half) ∨ (1 ≤ half ∧ half ≤ 4 ∧ base < 0) ∨ (1 ≤ half ∧ half ≤ 4 ∧ 0 ≤ base ∧ 8 - 2 * half < base) by omega) with h5 | ⟨h5, h6⟩ | ⟨h5, h6, h7⟩ | ⟨h5, h6, h7, h8⟩
    case' inr.inr.inr =>
      have hm : wrap64 (8 - wrap64 (2 * half)) = 8 - 2 * half := by unfold wrap64; omega
      have hd : decide (base ≤ 8 - 2 * half) = false := decide_eq_false (by omega)
    all_goals
      clear hok
      go_wp2_with fail
      refine (own_crash H1.out 0 (by decide) (by decide)).mono ?_
      rintro e w4 ⟨rfl, h4⟩
      have H4 := Lib.hid h4
      clear h4 H1
      go_wp2_with fail
      refine (nil_down H4.out).mono ?_
      rintro e w' ⟨rfl, rfl⟩
      go_wp2_with fail
      refine (append_nil _ _ _).mono ?_
      rintro e w' ⟨rfl, rfl⟩
      go_wp2_with fail
      refine (base_nil _).mono ?_
      rintro e w' ⟨rfl, rfl⟩
      go_wp2_with fail
      refine (records_nil _).mono ?_
      rintro e w' ⟨rfl, rfl⟩
      go_wp2_with fail
      refine (gen_nil _).mono ?_
      rintro e w' ⟨rfl, rfl⟩
      go_wp2_with fail
      refine (room_nil _).mono ?_
      rintro e w' ⟨rfl, rfl⟩
      go_wp2_with fail
      refine (sectors_any _ _ (by have := HS.out; omega)).mono ?_
      rintro e w' ⟨rfl, rfl⟩
      go_wp2_with fail
      refine (rcount_any _ _ (by omega) (by have := HS.out; omega)).mono ?_
      rintro e w' ⟨rfl, rfl⟩
      rw [Int.toNat_natCast]
      generalize countOf s.size = cn
      have hcn : ((cn : Int) == (cn : Int)) = true := by simp
      go_wp2_with fail
      go_ret
      exact ⟨rfl, HB1.out.trans (H4.out.below.mono HB1.out.size)⟩
end Go.Proofs.YtbdhicjebeoakaaDoor
