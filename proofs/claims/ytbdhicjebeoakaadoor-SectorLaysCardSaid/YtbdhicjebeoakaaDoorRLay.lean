/- The reference's Lay. -/
import Derived.Test.YtbdhicjebeoakaaDoorLay
set_option linter.unusedVariables false
set_option linter.unusedSimpArgs false
namespace Go.Proofs.YtbdhicjebeoakaaDoor
open Go.RowKit

set_option maxRecDepth 20000 in
set_option maxHeartbeats 4000000 in
theorem rlay_ok (s : List UInt8) (st ge no : Nat) (w : World) (hs : s.length ≤ 1000000000) (hst : st < 18446744073709551616) (hok : layOk s ge no = true) :
    Calls Tryd.prog 20 #[.string ⟨s.toArray⟩, .int .u64 (st : Int), .int .i64 (ge : Int), .int .i64 (no : Int)] w (LayPost w.heap.size (layL s st ge no) (.bool true) w) := by
  have hsz0 : (⟨s.toArray⟩ : ByteArray).size = s.length := by simp [ByteArray.size]
  have hcp := countOf_pos s.length
  have hcu : countOf s.length ≤ 1000000000 := by unfold countOf; split <;> omega
  have HOK := Lib.hid hok
  clear hok
  go_enter Tryd.func20, Tryd.ntmps20
  go_wp2_with fail
  refine (rcount_any _ w (by omega) (by omega)).mono ?_
  rintro e w' ⟨rfl, rfl⟩
  rw [Int.toNat_natCast]
  obtain ⟨n, hn⟩ : ∃ n, n = countOf s.length := ⟨_, rfl⟩
  rw [← hn] at hcp hcu ⊢
  have HN := Lib.hid hn
  clear hn
  go_wp2_with fail
  go_loopw [11, 12] (fun lv i wr => ∃ k : Nat, i = .int .i64 (k : Int) ∧ k ≤ n ∧ Below w.heap.size w wr ∧ OwnStrs w.heap.size wr lv ((layL s st ge no).take k)) (fun _ i _ => match i with | .int _ k => n - k.toNat | _ => 0)
  case atStart => exact ⟨0, rfl, by omega, Below.refl _ _, OwnStrs.nil _ _⟩
  case round =>
    obtain ⟨k, rfl, hk, hB, hown⟩ := hrel
    have HB := Lib.hid hB
    have HOWN := Lib.hid hown
    clear hB hown
    by_cases hlt : k < n
    · have hup := countOf_up s.length
      rw [← HN.out] at hup
      have hlow := countOf_low s.length k (by rw [← HN.out]; exact hlt)
      obtain ⟨a, ha⟩ : ∃ a : Nat, a = min s.length (37 * k) := ⟨_, rfl⟩
      obtain ⟨b, hb⟩ : ∃ b : Nat, b = min s.length (37 * k + 37) := ⟨_, rfl⟩
      have hsub : sub s a b = (s.drop (37 * k)).take 37 := by
        unfold sub
        rcases Nat.le_total s.length (37 * k) with h | h
        · have h1 : a = s.length := by omega
          rw [h1, List.drop_eq_nil_of_le (by simp; omega), List.drop_eq_nil_of_le h]; rfl
        · have h1 : a = 37 * k := by omega
          rw [h1, List.drop_take]
          rcases Nat.le_total s.length (37 * k + 37) with h' | h'
          · rw [List.take_of_length_le (by simp; omega), List.take_of_length_le (by simp; omega)]
          · have h2 : b - 37 * k = 37 := by omega
            rw [h2]
      have hpr := piece_right s st ge no k (by rw [← HN.out]; exact hlt) HOK.out
      have hpe : pieceAt s st ge no k = ⟨st, (ge : Int), (no : Int), (k : Int), (n : Int), sub s a b⟩ := by
        rw [hsub, HN.out]; rfl
      rw [hpe] at hpr
      have hlt2 := layL_take s st ge no k (by rw [← HN.out]; exact hlt)
      rw [hpe] at hlt2
      have hab : a ≤ b := by omega
      have hbs : b ≤ s.length := by omega
      have hka : min (s.length : Int) (37 * (k : Int)) = (a : Int) := by omega
      have hkb : min (s.length : Int) (37 * (k : Int) + 37) = (b : Int) := by omega
      have hsl : ∀ W : World, (Instr.slice 9 (.string ⟨s.toArray⟩) (some (.int .i64 (a : Int))) (some (.int .i64 (b : Int))) none).run Tryd.prog W = .ok (.string ⟨(sub s a b).toArray⟩) W := fun W => by
        rw [← ext_sub]
        exact run_slice_string (P := Tryd.prog) W 9 ⟨s.toArray⟩ .i64 .i64 (a : Int) (b : Int) Tryd.underlying9 (by omega) (by omega) (by rw [hsz0]; omega)
      have hdl : (sub s a b).length ≤ 37 := by rw [sub_length _ _ _ hbs]; omega
      generalize sub s a b = da at hpr hlt2 hsl hdl
      have HT := Lib.hid hlt2
      have hr := hpr
      have HR := fun W => Lib.hid (rright_any st ge no k n da W (by omega))
      rw [hpr] at HR
      have HP := fun W => Lib.hid (rprint_ok st ge no k n da W hpr hst)
      clear ha hb hup hlow hpr hpe hlt2 hsub hr
      go_wp2_with fail
      refine (HR _).out.mono ?_
      rintro e w1 ⟨rfl, hb1⟩
      have hP := (hb1.block _ (by simp)).trans (heap_alloc_new wr _)
      have hb2 := ((Below.refl wr.heap.size wr).alloc (Nat.le_refl _) (.cells #[.int .u64 (st : Int), .int .i64 (ge : Int), .int .i64 (no : Int), .int .i64 (k : Int), .int .i64 (n : Int), .string ⟨da.toArray⟩] 30)).trans (hb1.mono (by simp))
      have HB := Lib.hid (HB.out.trans (hb2.mono HB.out.size))
      have HOWN := Lib.hid (HOWN.out.on hb2)
      have kk := block_cell hP
      have k0 : w1.cell? ⟨wr.heap.size, 0, none⟩ = some (.int .u64 (st : Int)) := kk 0
      have k1 : w1.cell? ⟨wr.heap.size, 1, none⟩ = some (.int .i64 (ge : Int)) := kk 1
      have k2 : w1.cell? ⟨wr.heap.size, 2, none⟩ = some (.int .i64 (no : Int)) := kk 2
      have k3 : w1.cell? ⟨wr.heap.size, 3, none⟩ = some (.int .i64 (k : Int)) := kk 3
      have k4 : w1.cell? ⟨wr.heap.size, 4, none⟩ = some (.int .i64 (n : Int)) := kk 4
      have k5 : w1.cell? ⟨wr.heap.size, 5, none⟩ = some (.string ⟨da.toArray⟩) := kk 5
      clear kk hb1 hb2 hP
      dsimp only
      repeat (first | go_values | go_skip | go_guarded | go_step | go_upon)
      refine (HP _).out.mono ?_
      rintro e w2 ⟨rfl, hb3⟩
      have HB := Lib.hid (HB.out.trans (hb3.mono HB.out.size))
      have HOWN := Lib.hid (HOWN.out.on hb3)
      have HB1 := HB.out.size
      clear hb3 k0 k1 k2 k3 k4 k5
      dsimp only
      repeat (first | (go_big_may; first | ((with_reducible refine wpList_buildCell rfl 41 9 _ rfl _ ?_ ?_ Tryd.underlying41 (by kernel_rfl) ?_); (· rfl); (· rfl)) | ((with_reducible refine wpList_append_str rfl _ _ rfl w.heap.size u11 ((layL s st ge no).take k) (Pc.print ⟨st, ge, no, k, n, da⟩) ?_ HOWN.out ?_ ?_ HB1 ?_); (· rfl); (· rfl); (· simp; omega); intro v' w3 hown1 hg1; have HOWN1 := Lib.hid hown1; have HG1 := Lib.hid hg1; clear hown1 hg1)) | go_values | go_skip | go_guarded | go_step | go_upon)
      refine ⟨⟨k + 1, rfl, by omega, HB.out.trans HG1.out, ?_⟩, ?_⟩
      · rw [HT.out]; exact HOWN1.out
      · show n - ((k : Int) + 1).toNat < n - (k : Int).toNat
        omega
    · obtain rfl : k = n := by omega
      have hw := HOWN.out
      rw [List.take_of_length_le (by rw [layL_length, ← HN.out]; exact Nat.le_refl _)] at hw
      have HW := Lib.hid hw
      clear hw
      go_wp2_with fail
      go_ret2
      exact ⟨_, rfl, HW.out, HB.out⟩
set_option maxRecDepth 20000 in
set_option maxHeartbeats 4000000 in
theorem rlay_bad (s : List UInt8) (st : Nat) (gen no : Int) (w : World) (hs : s.length ≤ 1000000000) (hst : st < 18446744073709551616) (hok : layOk s gen no = false) :
    Calls Tryd.prog 20 #[.string ⟨s.toArray⟩, .int .u64 (st : Int), .int .i64 gen, .int .i64 no] w fun e w' => e = .returned (.tuple #[.slice none 0 0, .bool false]) ∧ Below w.heap.size w w' := by
  have hsz0 : (⟨s.toArray⟩ : ByteArray).size = s.length := by simp [ByteArray.size]
  have hcp := countOf_pos s.length
  have hcu : countOf s.length ≤ 1000000000 := by unfold countOf; split <;> omega
  have hpr := piece_wrong s st gen no hok
  have hpe : pieceAt s st gen no 0 = ⟨st, gen, no, 0, (countOf s.length : Int), s.take 37⟩ := by simp [pieceAt]
  rw [hpe] at hpr
  clear hok hpe
  obtain ⟨b, hb⟩ : ∃ b : Nat, b = min s.length 37 := ⟨_, rfl⟩
  have hmm : min (s.length : Int) 37 = (b : Int) := by omega
  have hma : min (s.length : Int) 0 = 0 := by omega
  have htk : sub s 0 b = s.take 37 := by
    unfold sub
    rw [List.drop_zero, hb]
    rcases Nat.le_total s.length 37 with h | h
    · rw [Nat.min_eq_left h, List.take_of_length_le (Nat.le_refl _), List.take_of_length_le h]
    · rw [Nat.min_eq_right h]
  have hbs : b ≤ s.length := by omega
  have hsl : ∀ W : World, (Instr.slice 9 (.string ⟨s.toArray⟩) (some (.int .i64 0)) (some (.int .i64 (b : Int))) none).run Tryd.prog W = .ok (.string ⟨(s.take 37).toArray⟩) W := fun W => by
    rw [← htk, ← ext_sub]
    exact run_slice_string (P := Tryd.prog) W 9 ⟨s.toArray⟩ .i64 .i64 0 (b : Int) Tryd.underlying9 (by omega) (by omega) (by rw [hsz0]; omega)
  have hdl : (s.take 37).length ≤ 37 := by rw [List.length_take]; omega
  generalize s.take 37 = da at hpr hsl hdl
  clear htk hb
  go_enter Tryd.func20, Tryd.ntmps20
  go_wp2_with fail
  refine (rcount_any _ w (by omega) (by omega)).mono ?_
  rintro e w' ⟨rfl, rfl⟩
  rw [Int.toNat_natCast]
  obtain ⟨n, hn⟩ : ∃ n, n = countOf s.length := ⟨_, rfl⟩
  rw [← hn] at hcp hcu hpr ⊢
  have HR := fun W => Lib.hid (rright_any st gen no 0 n da W (by omega))
  rw [hpr] at HR
  clear hn hpr
  go_wp2_with fail
  go_loopw [11, 12] (fun lv i wr => i = .int .i64 0 ∧ wr = w) (fun _ i _ => 0)
  case atStart => exact ⟨rfl, rfl⟩
  case round =>
    obtain ⟨rfl, rfl⟩ := hrel
    go_wp2_with fail
    refine (HR _).out.mono ?_
    rintro e w1 ⟨rfl, hb1⟩
    dsimp only
    repeat (first | go_values | go_skip | go_guarded | go_step | go_upon)
    go_ret2
    exact ⟨rfl, ((Below.refl _ _).alloc (Nat.le_refl _) _).trans (hb1.mono (by simp))⟩
end Go.Proofs.YtbdhicjebeoakaaDoor
