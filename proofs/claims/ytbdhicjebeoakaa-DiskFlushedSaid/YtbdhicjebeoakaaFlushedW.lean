/- The walk of lockagelaw03.DiskFlushed. -/
import Derived.Test.YtbdhicjebeoakaaFillAll
import Derived.Test.YtbdhicjebeoakaaFlushP
import Derived.Test.YtbdhicjebeoakaaFatesW
import Derived.Test.YtbdhicjebeoakaaArmedW
set_option linter.unusedVariables false
set_option linter.unusedSimpArgs false
namespace Go.Proofs.Ytbdhicjebeoakaa
open Go.RowKit

def txt (x : Nat → ByteArray) (i : Nat) : List UInt8 := fillL (x i).data.toList
theorem txt_length (x : Nat → ByteArray) (i : Nat) : (txt x i).length = 64 := fillL_length _
theorem mix_text (n : Nat) (a b : List UInt8) (hb : b.length = 64) : (⟨a.toArray⟩ : ByteArray).extract 0 n ++ (⟨b.toArray⟩ : ByteArray).extract n 64 = ⟨(mix n a b).toArray⟩ := by
  apply ba_eq
  rw [ba_append, ba_take]
  simp [mix]
  rw [List.take_of_length_le (by rw [List.length_drop, hb]; exact Nat.le_refl _)]
def back (i : Nat) : Nat := 30 - 1 - i
def kp0 : List (List UInt8) := List.replicate 30 zeros64
theorem kp0_length : kp0.length = 30 := by simp [kp0]
def kp1 (X : Nat) (x : Nat → ByteArray) : List (List UInt8) := keep (ws id (txt x) X) kp0
theorem kp1_length (X : Nat) (x : Nat → ByteArray) : (kp1 X x).length = 30 := by rw [kp1, keep_length, kp0_length]
def kpt (X : Nat) (x : Nat → ByteArray) (i : Nat) : List UInt8 := if i < X then txt x i else zeros64
theorem kp1_at (X : Nat) (x : Nat → ByteArray) (i : Nat) (hi : i < 30) : (kp1 X x).getD i [] = kpt X x i := by
  rw [kp1, keep_ws _ _ _ (by rw [kp0_length]; exact hi)]
  unfold kpt
  split
  · rfl
  · rw [kp0, List.getD_eq_getElem?_getD, List.getElem?_replicate, if_pos hi]; rfl
def endD (X Y : Nat) (x y : Nat → ByteArray) (bits : Int) : DSt := (stW (kp1 X x) X back (txt y) Y).crash bits
theorem endD_off (X Y : Nat) (x y : Nat → ByteArray) (bits : Int) : (endD X Y x y bits).off = true := stW_crash_off _ _ _ _ _ _
theorem endD_kept (X Y : Nat) (x y : Nat → ByteArray) (bits : Int) (hY : Y ≤ 30) (i : Nat) (hi : i < 30) :
    (endD X Y x y bits).keptAt i = if 29 - i < Y then mix (fate bits ((29 - i : Nat) : Int)) (txt y (29 - i)) (kpt X x i) else kpt X x i := by
  have hk : (endD X Y x y bits).kept = land bits 0 (ws back (txt y) Y) (kp1 X x) := stW_crash _ _ _ _ _ _
  have hl : (endD X Y x y bits).kept.length = 30 := by rw [hk, land_length, kp1_length]
  unfold DSt.keptAt
  rw [hl, if_neg (by omega), hk, Int.toNat_natCast]
  have := land_ws bits 30 (txt y) (kp1 X x) i hi (by rw [kp1_length]) Y hY
  rw [kp1_at _ _ _ hi] at this
  exact this

set_option maxHeartbeats 2000000 in
theorem flushed_walk (bits : Int) (w : World) (fa sa : Option Addr) (fc sc X Y : Nat) (x y : Nat → ByteArray) (hX : StrArg w fa X x) (hY : StrArg w sa Y y)
    (hb : 0 ≤ bits ∧ bits ≤ 18446744073709551615) :
    Calls Try.prog 6 #[.slice fa X fc, .slice sa Y sc, .int .u64 bits] w fun e w' => e = .returned (.bool true) ∧ Below w.heap.size w w' := by
  go_enter Try.func6, Try.ntmps6
  go_wp2_with fail
  refine (awake_any _).mono ?_
  rintro e w1 ⟨rfl, hB⟩
  have HB := Lib.hid hB
  clear hB
  by_cases hx : X ≤ 30
  case neg =>
    go_wp2_with fail
    refine (awake_any _).mono ?_
    rintro e w2 ⟨rfl, hB2⟩
    go_wp2_with fail
    go_ret
    exact ⟨rfl, HB.out.trans (hB2.mono HB.out.size)⟩
  by_cases hy : Y ≤ 30
  case neg =>
    go_wp2_with fail
    refine (awake_any _).mono ?_
    rintro e w2 ⟨rfl, hB2⟩
    go_wp2_with fail
    go_ret
    exact ⟨rfl, HB.out.trans (hB2.mono HB.out.size)⟩
  go_wp2_with fail
  refine (own_new 30 w1 (by decide) (by decide)).mono ?_
  rintro e w2 ⟨b, rfl, h0⟩
  have H0 : Hid (Own w w2 b (stW kp0 0 id (txt x) 0)) := h0.under HB.out
  clear h0
  go_wp2_with fail
  rename_i h1 h2 _ _
  clear h1 h2
  go_loopw [38] (fun p wr => ∃ i : Nat, p = .int .i64 (i : Int) ∧ i ≤ X ∧ Own w wr b (stW kp0 0 id (txt x) i)) (fun p wr => match p with | .int _ i => X - i.toNat | _ => 0)
  case atStart => exact ⟨0, rfl, by omega, H0.out⟩
  case round =>
    obtain ⟨i, rfl, hi2, hO⟩ := hrel
    have HO := Lib.hid hO
    clear hO H0
    by_cases hlt : i < X
    · obtain ⟨g, off, rfl⟩ := hX.form hlt
      have hc := hX.later HO.out.below hlt
      go_wp2_with (go_at_call 14; refine (fill_all _ _).mono ?_; rintro e w' ⟨rfl, rfl⟩)
      refine (own_write_to HO.out (stW_write kp0 0 id (txt x) i (by rw [kp0_length]; show i < 30; omega) (txt_length _ _)) (by simp [stW]; omega)).mono ?_
      rintro e w4 ⟨rfl, h4⟩
      have H4 := Lib.hid h4
      clear h4 HO
      go_wp2_with fail
      go_round
      case rel => exact ⟨i + 1, rfl, by omega, H4.out⟩
      case measure =>
        show X - ((i : Int) + 1).toNat < X - (i : Int).toNat
        omega
    · obtain rfl : i = X := by omega
      go_wp2_with fail
      refine (own_flush_to HO.out (stW_flush _ _ _ _ _ back (txt y))).mono ?_
      rintro e w4 ⟨rfl, h4⟩
      have H4 : Hid (Own w w4 b (stW (kp1 i x) (0 + i) back (txt y) 0)) := h4
      clear h4 HO
      go_wp2_with fail
      go_loopw [53] (fun p wr => ∃ j : Nat, p = .int .i64 (j : Int) ∧ j ≤ Y ∧ Own w wr b (stW (kp1 i x) (0 + i) back (txt y) j)) (fun p wr => match p with | .int _ j => Y - j.toNat | _ => 0)
      case atStart => exact ⟨0, rfl, by omega, H4.out⟩
      case round =>
        obtain ⟨j, rfl, hj2, hO⟩ := hrel
        have HO := Lib.hid hO
        clear hO H4
        by_cases hltj : j < Y
        · obtain ⟨g, off, rfl⟩ := hY.form hltj
          have hc := hY.later HO.out.below hltj
          have hbk : (29 : Int) - (j : Int) = ((back j : Nat) : Int) := by unfold back; omega
          go_wp2_with (go_at_call 14; refine (fill_all _ _).mono ?_; rintro e w' ⟨rfl, rfl⟩)
          refine (own_write_to HO.out (stW_write (kp1 i x) (0 + i) back (txt y) j (by rw [kp1_length]; unfold back; omega) (txt_length _ _)) (by simp [stW]; omega)).mono ?_
          rintro e w4 ⟨rfl, h4⟩
          have H4 := Lib.hid h4
          clear h4 HO hbk
          go_wp2_with fail
          go_round
          case rel => exact ⟨j + 1, rfl, by omega, H4.out⟩
          case measure =>
            show Y - ((j : Int) + 1).toNat < Y - (j : Int).toNat
            omega
        · obtain rfl : j = Y := by omega
          go_wp2_with fail
          refine (own_crash HO.out bits hb.1 hb.2).mono ?_
          rintro e w4 ⟨rfl, h4⟩
          have H4 : Hid (Own w w4 b ((stW (kp1 i x) (0 + i) back (txt y) j).crash bits)) := Lib.hid h4
          rw [Int.zero_add] at H4
          have H4 : Hid (Own w w4 b (endD i j x y bits)) := H4
          clear h4 HO
          go_wp2_with fail
          go_loopw [68] (fun p wr => ∃ k : Nat, p = .int .i64 (k : Int) ∧ k ≤ 30 ∧ Own w wr b (endD i j x y bits)) (fun p wr => match p with | .int _ k => 30 - k.toNat | _ => 0)
          case atStart => exact ⟨0, rfl, by omega, H4.out⟩
          case round =>
            obtain ⟨k, rfl, hk2, hO⟩ := hrel
            have HO := Lib.hid hO
            clear hO H4
            by_cases hltk : k < 30
            · have mk64 : ∀ W : World, (Instr.makeSlice 41 (.int .i64 64) (.int .i64 64)).run Try.prog W = .ok (.slice (some ⟨W.heap.size, 0, none⟩) 64 64) (W.alloc (.cells (Array.replicate 64 (.int .u8 0)) 5)) := make_zeros 64 (by decide)
              have cv64 : (convert 41 9 (.slice (some ⟨wr.heap.size, 0, none⟩) 64 64)).run Try.prog (wr.alloc (.cells (Array.replicate 64 (.int .u8 0)) 5)) = .ok (.string ⟨zeros64.toArray⟩) (wr.alloc (.cells (Array.replicate 64 (.int .u8 0)) 5)) := conv_zeros 64 wr
              have HA := Lib.hid (HO.out.alloc (.cells (Array.replicate 64 (.int .u8 0)) 5))
              clear HO
              have hbk : (29 : Int) - (k : Int) = ((back k : Nat) : Int) := by unfold back; omega
              by_cases hx1 : k < i
              · obtain ⟨g, off, rfl⟩ := hX.form hx1
                have hc := hX.later HA.out.below hx1
                have hkp : kpt i x k = fillL (x k).data.toList := by unfold kpt; rw [if_pos hx1]; rfl
                by_cases hy1 : back k < j
                · obtain ⟨g2, off2, rfl⟩ := hY.form hy1
                  generalize hn : fate bits ((back k : Nat) : Int) = n
                  have hn64 : n ≤ 64 := by rw [← hn]; exact fate_le _ _
                  have HN := Lib.hid hn
                  have hkt : (endD i j x y bits).keptAt k = mix n (fillL (y (back k)).data.toList) (fillL (x k).data.toList) := by
                    rw [endD_kept i j x y bits hy k hltk, if_pos (by unfold back at hy1; omega), hkp]
                    show mix (fate bits ((back k : Nat) : Int)) (txt y (back k)) _ = _
                    rw [hn]; rfl
                  have HKT := Lib.hid hkt
                  clear hn hkt hkp
                  go_wp2_with (first | (go_at_call 14; refine (fill_all _ _).mono ?_; rintro e w' ⟨rfl, rfl⟩) | (go_at_call 11; refine (reffate_to _ hb.1 hb.2 HN.out).mono ?_; rintro e w' ⟨rfl, rfl⟩))
                  have HS := HA.out.drew
                  clear HA hbk cv64 mk64
                  refine wp_head_tail 11 [true, true, true, true, true, true, true, true, false, false, false] (fun W => Own w W b (endD i j x y bits)) (by kernel_rfl) (by kernel_rfl) (fun _ _ d _ _ h => by cases d <;> exact h) HS ?_
                  simp only [List.take_succ_cons, List.take_zero, List.drop_succ_cons, List.drop_zero]
                  have hn1 : ((64 : Int) < (n : Int)) = False := by simp only [eq_iff_iff, iff_false]; omega
                  have hn2 : ((n : Int) ≤ 64) = True := by simp only [eq_iff_iff, iff_true]; omega
                  have hsz1 : (⟨(fillL (y (back k)).data.toList).toArray⟩ : ByteArray).size = 64 := by rw [ba_size]; exact fillL_length _
                  have hsz2 : (⟨(fillL (x k).data.toList).toArray⟩ : ByteArray).size = 64 := by rw [ba_size]; exact fillL_length _
                  refine wpHead_take (.slice (some ⟨g2, off2, none⟩) j sc) rfl (fun W hW => by go_simp) ?_
                  simp only [Act.put, List.setIfInBounds_toArray, List.set_cons_succ, List.set_cons_zero]
                  refine wpHead_take (.int .i64 ((back k : Nat) : Int)) rfl (fun W hW => by go_simp) ?_
                  simp only [Act.put, List.setIfInBounds_toArray, List.set_cons_succ, List.set_cons_zero]
                  refine wpHead_take (.pointer (some ⟨g2, off2 + back k, none⟩)) rfl (fun W hW => by go_simp) ?_
                  simp only [Act.put, List.setIfInBounds_toArray, List.set_cons_succ, List.set_cons_zero]
                  refine wpHead_take (.string (y (back k))) rfl (fun W hW => by have hc2 := hY.later hW.below hy1; clear hW; go_simp) ?_
                  simp only [Act.put, List.setIfInBounds_toArray, List.set_cons_succ, List.set_cons_zero]
                  refine wpHead_call (.string ⟨(fillL (y (back k)).data.toList).toArray⟩) 14 #[.string (y (back k))] rfl (fun W => by go_simp) (fun W hW => (fill_all _ _).mono fun e w'' h => ⟨h.1, h.2.symm⟩) ?_
                  simp only [Act.put, List.setIfInBounds_toArray, List.set_cons_succ, List.set_cons_zero]
                  refine wpHead_take (.int .i64 (n : Int)) rfl (fun W hW => by go_simp) ?_
                  simp only [Act.put, List.setIfInBounds_toArray, List.set_cons_succ, List.set_cons_zero]
                  refine wpHead_take (.string ((⟨(fillL (y (back k)).data.toList).toArray⟩ : ByteArray).extract 0 n)) rfl (fun W hW => by go_simp) ?_
                  simp only [Act.put, List.setIfInBounds_toArray, List.set_cons_succ, List.set_cons_zero]
                  refine wpHead_take (.string ⟨(fillL (x k).data.toList).toArray⟩) rfl (fun W hW => by go_simp) ?_
                  simp only [Act.put, List.setIfInBounds_toArray, List.set_cons_succ, List.set_cons_zero]
                  iterate 3 (refine wpHead_step (fun K hK => ?_) HS; go_simp; refine hK _ _ HS ?_; clear hK K)
                  refine wpHead_nil ?_
                  have tx := mix_text n (fillL (y (back k)).data.toList) (fillL (x k).data.toList) (by exact fillL_length _)
                  go_wp2_with (go_at_call 30; refine (own_kept_to HS HKT.out).mono ?_; rintro e w' ⟨rfl, rfl⟩)
                  go_round
                  case rel => exact ⟨k + 1, rfl, by omega, HS⟩
                  case measure =>
                    show 30 - ((k : Int) + 1).toNat < 30 - (k : Int).toNat
                    omega
                · have hkt : (endD i j x y bits).keptAt k = fillL (x k).data.toList := by
                    rw [endD_kept i j x y bits hy k hltk, if_neg (by unfold back at hy1; omega), hkp]
                  have HKT := Lib.hid hkt
                  clear hkt hkp
                  go_wp2_with (first | (go_at_call 14; refine (fill_all _ _).mono ?_; rintro e w' ⟨rfl, rfl⟩) | (go_at_call 30; refine (own_kept_to HA.out HKT.out).mono ?_; rintro e w' ⟨rfl, rfl⟩))
                  go_round
                  case rel => exact ⟨k + 1, rfl, by omega, HA.out⟩
                  case measure =>
                    show 30 - ((k : Int) + 1).toNat < 30 - (k : Int).toNat
                    omega
              · skip
                have hkp : kpt i x k = zeros64 := by unfold kpt; rw [if_neg hx1]
                by_cases hy1 : back k < j
                · obtain ⟨g2, off2, rfl⟩ := hY.form hy1
                  generalize hn : fate bits ((back k : Nat) : Int) = n
                  have hn64 : n ≤ 64 := by rw [← hn]; exact fate_le _ _
                  have HN := Lib.hid hn
                  have hkt : (endD i j x y bits).keptAt k = mix n (fillL (y (back k)).data.toList) (zeros64) := by
                    rw [endD_kept i j x y bits hy k hltk, if_pos (by unfold back at hy1; omega), hkp]
                    show mix (fate bits ((back k : Nat) : Int)) (txt y (back k)) _ = _
                    rw [hn]; rfl
                  have HKT := Lib.hid hkt
                  clear hn hkt hkp
                  go_wp2_with (first | (go_at_call 14; refine (fill_all _ _).mono ?_; rintro e w' ⟨rfl, rfl⟩) | (go_at_call 11; refine (reffate_to _ hb.1 hb.2 HN.out).mono ?_; rintro e w' ⟨rfl, rfl⟩))
                  have HS := HA.out.drew
                  clear HA hbk cv64 mk64
                  refine wp_head_tail 11 [true, true, true, true, true, true, true, true, false, false, false] (fun W => Own w W b (endD i j x y bits)) (by kernel_rfl) (by kernel_rfl) (fun _ _ d _ _ h => by cases d <;> exact h) HS ?_
                  simp only [List.take_succ_cons, List.take_zero, List.drop_succ_cons, List.drop_zero]
                  have hn1 : ((64 : Int) < (n : Int)) = False := by simp only [eq_iff_iff, iff_false]; omega
                  have hn2 : ((n : Int) ≤ 64) = True := by simp only [eq_iff_iff, iff_true]; omega
                  have hsz1 : (⟨(fillL (y (back k)).data.toList).toArray⟩ : ByteArray).size = 64 := by rw [ba_size]; exact fillL_length _
                  have hsz2 : (⟨(zeros64).toArray⟩ : ByteArray).size = 64 := by rw [ba_size]; rfl
                  refine wpHead_take (.slice (some ⟨g2, off2, none⟩) j sc) rfl (fun W hW => by go_simp) ?_
                  simp only [Act.put, List.setIfInBounds_toArray, List.set_cons_succ, List.set_cons_zero]
                  refine wpHead_take (.int .i64 ((back k : Nat) : Int)) rfl (fun W hW => by go_simp) ?_
                  simp only [Act.put, List.setIfInBounds_toArray, List.set_cons_succ, List.set_cons_zero]
                  refine wpHead_take (.pointer (some ⟨g2, off2 + back k, none⟩)) rfl (fun W hW => by go_simp) ?_
                  simp only [Act.put, List.setIfInBounds_toArray, List.set_cons_succ, List.set_cons_zero]
                  refine wpHead_take (.string (y (back k))) rfl (fun W hW => by have hc2 := hY.later hW.below hy1; clear hW; go_simp) ?_
                  simp only [Act.put, List.setIfInBounds_toArray, List.set_cons_succ, List.set_cons_zero]
                  refine wpHead_call (.string ⟨(fillL (y (back k)).data.toList).toArray⟩) 14 #[.string (y (back k))] rfl (fun W => by go_simp) (fun W hW => (fill_all _ _).mono fun e w'' h => ⟨h.1, h.2.symm⟩) ?_
                  simp only [Act.put, List.setIfInBounds_toArray, List.set_cons_succ, List.set_cons_zero]
                  refine wpHead_take (.int .i64 (n : Int)) rfl (fun W hW => by go_simp) ?_
                  simp only [Act.put, List.setIfInBounds_toArray, List.set_cons_succ, List.set_cons_zero]
                  refine wpHead_take (.string ((⟨(fillL (y (back k)).data.toList).toArray⟩ : ByteArray).extract 0 n)) rfl (fun W hW => by go_simp) ?_
                  simp only [Act.put, List.setIfInBounds_toArray, List.set_cons_succ, List.set_cons_zero]
                  refine wpHead_take (.string ⟨(zeros64).toArray⟩) rfl (fun W hW => by go_simp) ?_
                  simp only [Act.put, List.setIfInBounds_toArray, List.set_cons_succ, List.set_cons_zero]
                  iterate 3 (refine wpHead_step (fun K hK => ?_) HS; go_simp; refine hK _ _ HS ?_; clear hK K)
                  refine wpHead_nil ?_
                  have tx := mix_text n (fillL (y (back k)).data.toList) (zeros64) (by rfl)
                  go_wp2_with (go_at_call 30; refine (own_kept_to HS HKT.out).mono ?_; rintro e w' ⟨rfl, rfl⟩)
                  go_round
                  case rel => exact ⟨k + 1, rfl, by omega, HS⟩
                  case measure =>
                    show 30 - ((k : Int) + 1).toNat < 30 - (k : Int).toNat
                    omega
                · have hkt : (endD i j x y bits).keptAt k = zeros64 := by
                    rw [endD_kept i j x y bits hy k hltk, if_neg (by unfold back at hy1; omega), hkp]
                  have HKT := Lib.hid hkt
                  clear hkt hkp
                  go_wp2_with (first | (go_at_call 14; refine (fill_all _ _).mono ?_; rintro e w' ⟨rfl, rfl⟩) | (go_at_call 30; refine (own_kept_to HA.out HKT.out).mono ?_; rintro e w' ⟨rfl, rfl⟩))
                  go_round
                  case rel => exact ⟨k + 1, rfl, by omega, HA.out⟩
                  case measure =>
                    show 30 - ((k : Int) + 1).toNat < 30 - (k : Int).toNat
                    omega
            · obtain rfl : k = 30 := by omega
              go_wp2_with (go_at_call 28; refine (own_down_to HO.out (endD_off _ _ _ _ _)).mono ?_; rintro e w' ⟨rfl, rfl⟩)
              refine (own_flush_to HO.out (off_flush (endD_off _ _ _ _ _))).mono ?_
              rintro e w5 ⟨rfl, h5⟩
              have H5 := Lib.hid h5
              clear h5 HO
              go_wp2_with fail
              go_ret
              exact ⟨rfl, H5.out.below⟩
end Go.Proofs.Ytbdhicjebeoakaa
