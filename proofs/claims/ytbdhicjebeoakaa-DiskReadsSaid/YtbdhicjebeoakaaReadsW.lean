/- The walk of lockagelaw03.DiskReads. -/
import Derived.Test.YtbdhicjebeoakaaReadsP
set_option linter.unusedVariables false
set_option linter.unusedSimpArgs false
namespace Go.Proofs.Ytbdhicjebeoakaa
open Go.RowKit Go.Maps

theorem zero_string (W : World) : (zeroValue 9).run Try.prog W = .ok (.string ⟨#[]⟩) W := by kernel_rfl
set_option maxHeartbeats 2000000 in
theorem reads_walk (w : World) (ad : Option Addr) (n c : Nat) (x : Nat → OpV) (hX : OpArg w ad n x) :
    Calls Try.prog 4 #[.slice ad n c] w fun e w' => e = .returned (.bool true) ∧ Below w.heap.size w w' := by
  go_enter Try.func4, Try.ntmps4
  go_wp2_with fail
  refine (awake_any _).mono ?_
  rintro e w1 ⟨rfl, hB⟩
  have HB := Lib.hid hB
  clear hB
  by_cases hn : n ≤ 100
  case neg =>
    go_wp2_with fail
    refine (awake_any _).mono ?_
    rintro e w2 ⟨rfl, hB2⟩
    go_wp2_with fail
    go_ret
    exact ⟨rfl, HB.out.trans (hB2.mono HB.out.size)⟩
  go_wp2_with fail
  refine (own_new 8 w1 (by decide) (by decide)).mono ?_
  rintro e w2 ⟨b, rfl, h0⟩
  have H0 : Hid (Rd w (w2.alloc (.map #[] 0)) b w2.heap.size 0 (DSt.new 8) (.map [])) := Rd.made (h0.under HB.out)
  clear h0
  have mkm : (Instr.makeMap 31 none).run Try.prog w2 = .ok (.map (some w2.heap.size)) (w2.alloc (.map #[] 0)) := run_makeMap _ _
  go_wp2_with fail
  rename_i h1 _ _
  clear h1 mkm
  generalize w2.heap.size = m at *
  go_loopw [29] (fun p wr => ∃ (i : Nat) (d : DSt) (D : DataW Unit), p = .int .i64 (i : Int) ∧ i ≤ n ∧ Calm d i ∧ Knows D d ∧ Rd w wr b m i d D) (fun p wr => match p with | .int _ i => n - i.toNat | _ => 0)
  case atStart => exact ⟨0, _, _, rfl, by omega, calm_new, knows_new, H0.out⟩
  case round =>
    obtain ⟨i, d, D, rfl, hi2, hC, hK, hO⟩ := hrel
    have HC := Lib.hid hC
    have HK := Lib.hid hK
    have HO := Lib.hid hO
    clear hO H0 hC hK
    by_cases hlt : i < n
    · obtain ⟨g, off, rfl⟩ := hX.form hlt
      have hx6 := hX.later HO.out.below hlt
      have hok := hX.ok hlt
      obtain ⟨q, hq, hqe⟩ := mod8 (x i).at_
      generalize x i = oi at hx6 hok hqe
      obtain ⟨ok, oa, os, orw, oc, ob⟩ := oi
      have HX : Hid (∀ j v, [Value.int .i64 ok, .int .i64 oa, .string os, .bool orw, .int .i64 oc, .int .u64 ob][j]? = some v → wr.cell? ⟨g, off + i * 6 + j, none⟩ = some v) := Lib.hid hx6
      have HOK := Lib.hid hok
      clear hx6 hok
      simp only at hqe
      by_cases hlen : os.size ≤ 200
      case neg =>
        go_wp2_with (with_reducible refine wpList_load_cells rfl _ _ rfl g (off + i * 6) (by go_simp) _ [.int .i64 ok, .int .i64 oa, .string os, .bool orw, .int .i64 oc, .int .u64 ob] Try.underlying35 rfl (by kernel_rfl) HX.out ?_)
        go_ret
        exact ⟨rfl, (HO.out.alloc _).below⟩
      go_wp2_with (first | (with_reducible refine wpList_load_cells rfl _ _ rfl g (off + i * 6) (by go_simp) _ [.int .i64 ok, .int .i64 oa, .string os, .bool orw, .int .i64 oc, .int .u64 ob] Try.underlying35 rfl (by kernel_rfl) HX.out ?_) | (go_at_call 14; refine (fill_all _ _).mono ?_; rintro e w' ⟨rfl, rfl⟩))
      refine (rd_write_var HO.out _ _ (HC.out.write hq (fillL_length _)) (by rw [HC.out.writes]; omega)).mono ?_
      rintro e w4 ⟨rfl, h4, hv⟩
      have hmv : m ≠ wr.heap.size := by have := HO.out.map.lt; omega
      have H4 := Lib.hid h4
      have hv2 : w4.cell? ⟨wr.heap.size, 2, none⟩ = some (.string os) := by rw [block_cell hv]; rfl
      have hstay : ∀ w5 : World, w4.grownBy w5 (some m) → w5.cell? ⟨wr.heap.size, 0, none⟩ = some (.int .i64 ok) := fun w5 hg => by
        have h5 := (hg.block wr.heap.size (Array.getElem?_eq_some_iff.1 hv).1 (by simpa using hmv.symm)).trans hv
        rw [block_cell h5]; rfl
      have hi63 : i < maxLen := by unfold maxLen; omega
      have hkey : keyOf Try.prog 3 (.int .i64 (q : Int)) = some (keyL q) := keyOf_int_mk Try.underlying3 (by simp [Lit.wf, IntKind.min, IntKind.max, IntKind.signed, IntKind.bits]; omega)
      have hval : plainElem (H := Unit) Try.prog 9 (.string ⟨(fillL os.data.toList).toArray⟩) = some (.lit (.string (fillL os.data.toList)), []) := plainElem_string Try.underlying9 (by rw [ba_size]; show (fillL _).length ≤ _; rw [fillL_length]; unfold maxLen; omega)
      have HM := Lib.hid H4.out.map
      clear h4 HO hv
      by_cases hk2 : ok = 2
      · subst hk2
        go_wp2_with (first | (go_at_call 14; refine (fill_all _ _).mono ?_; rintro e w' ⟨rfl, rfl⟩) | (at_mapUpdate; with_reducible refine wpList_mapUpdate_own _ rfl _ _ _ 31 rfl 3 9 (int_keyed Try.underlying3) Try.underlying31 _ m i D rfl HM.out hi63 (.int .i64 (q : Int)) (.string ⟨(fillL os.data.toList).toArray⟩) (keyL q) rfl rfl hkey (.lit (.string (fillL os.data.toList))) [] hval ?_; intro w5 hm5 hg5; have hv5 := hstay w5 hg5; have HR := Lib.hid (H4.out.stored hm5 hg5); clear hm5 hg5))
        refine (rd_flush HR.out (HC.out.put _ _).flush).mono ?_
        rintro e w6 ⟨rfl, h6⟩
        have H6 := Lib.hid h6
        clear h6
        go_wp2_with fail
        go_round
        case rel => exact ⟨i + 1, _, _, rfl, by omega, (HC.out.put _ _).flushed, (HK.out.put _ _).flushed (HC.out.put _ _), H6.out⟩
        case measure =>
          show n - ((i : Int) + 1).toNat < n - (i : Int).toNat
          omega
      · go_wp2_with (first | (go_at_call 14; refine (fill_all _ _).mono ?_; rintro e w' ⟨rfl, rfl⟩) | (at_mapUpdate; with_reducible refine wpList_mapUpdate_own _ rfl _ _ _ 31 rfl 3 9 (int_keyed Try.underlying3) Try.underlying31 _ m i D rfl HM.out hi63 (.int .i64 (q : Int)) (.string ⟨(fillL os.data.toList).toArray⟩) (keyL q) rfl rfl hkey (.lit (.string (fillL os.data.toList))) [] hval ?_; intro w5 hm5 hg5; have hv5 := hstay w5 hg5; have HR := Lib.hid (H4.out.stored hm5 hg5); clear hm5 hg5))
        go_round
        case rel => exact ⟨i + 1, _, _, rfl, by omega, HC.out.put _ _, HK.out.put _ _, HR.out⟩
        case measure =>
          show n - ((i : Int) + 1).toNat < n - (i : Int).toNat
          omega
    · obtain rfl : i = n := by omega
      go_wp2_with fail
      go_loopw [66] (fun p wr => ∃ k : Nat, p = .int .i64 (k : Int) ∧ k ≤ 8 ∧ Rd w wr b m i d D) (fun p wr => match p with | .int _ k => 8 - k.toNat | _ => 0)
      case atStart => exact ⟨0, rfl, by omega, HO.out⟩
      case round =>
        obtain ⟨k, rfl, hk2, hO⟩ := hrel
        clear HO
        have HO := Lib.hid hO
        clear hO
        by_cases hltk : k < 8
        · have hkey : keyOf Try.prog 3 (.int .i64 (k : Int)) = some (keyL k) := keyOf_int_mk Try.underlying3 (by simp [Lit.wf, IntKind.min, IntKind.max, IntKind.signed, IntKind.bits]; omega)
          obtain ⟨v, ps, hrun, hv⟩ := HO.out.map.look_ok (int_keyed Try.underlying3) Try.underlying31 (zero_string _) (plainElem_string Try.underlying9 (Nat.zero_le _)) hkey
          obtain ⟨s, rfl, hs, _⟩ := plainElem_string_inv Try.underlying9 hv
          simp only [Prod.mk.injEq] at hs
          obtain ⟨hs, _⟩ := hs
          obtain ⟨hk1, hk0⟩ := HK.out.2 k hltk
          clear hv hkey
          cases hh : has D (keyL k)
          · rw [hh] at hrun
            have hz := hk0 hh
            clear hs hk1 hk0 hh
            have mk64 : ∀ W : World, (Instr.makeSlice 41 (.int .i64 64) (.int .i64 64)).run Try.prog W = .ok (.slice (some ⟨W.heap.size, 0, none⟩) 64 64) (W.alloc (.cells (Array.replicate 64 (.int .u8 0)) 5)) := make_zeros 64 (by decide)
            have cv64 : (convert 41 9 (.slice (some ⟨wr.heap.size, 0, none⟩) 64 64)).run Try.prog (wr.alloc (.cells (Array.replicate 64 (.int .u8 0)) 5)) = .ok (.string ⟨zeros64.toArray⟩) (wr.alloc (.cells (Array.replicate 64 (.int .u8 0)) 5)) := conv_zeros 64 wr
            have HA := Lib.hid (HO.out.alloc (.cells (Array.replicate 64 (.int .u8 0)) 5))
            have hrd := HC.out.read hltk
            rw [hz] at hrd
            have HRD := Lib.hid hrd
            clear hrd hz HO
            go_wp2_with fail
            refine (rd_read HA.out HRD.out).mono ?_
            rintro e w6 ⟨rfl, h6⟩
            have H6 := Lib.hid h6
            clear h6 HA
            go_wp2_with fail
            go_round
            case rel => exact ⟨k + 1, rfl, by omega, H6.out⟩
            case measure =>
              show 8 - ((k : Int) + 1).toNat < 8 - (k : Int).toNat
              omega
          · rw [hh] at hrun
            rw [hk1 hh] at hs
            simp only [DataW.lit.injEq, Lit.string.injEq] at hs
            obtain rfl : s = ⟨(cur d k).toArray⟩ := ba_eq hs.symm
            clear hs hk1 hk0 hh
            go_wp2_with fail
            refine (rd_read HO.out (HC.out.read hltk)).mono ?_
            rintro e w6 ⟨rfl, h6⟩
            have H6 := Lib.hid h6
            clear h6 HO
            go_wp2_with fail
            go_round
            case rel => exact ⟨k + 1, rfl, by omega, H6.out⟩
            case measure =>
              show 8 - ((k : Int) + 1).toNat < 8 - (k : Int).toNat
              omega
        · obtain rfl : k = 8 := by omega
          go_wp2_with fail
          refine (rd_flush HO.out HC.out.flush).mono ?_
          rintro e w6 ⟨rfl, h6⟩
          have H6 := Lib.hid h6
          clear h6 HO
          go_wp2_with (go_at_call 17; refine (rd_writes H6.out (k := i) HC.out.writes).mono ?_; rintro e w' ⟨rfl, rfl⟩)
          go_ret
          exact ⟨rfl, H6.out.below⟩
end Go.Proofs.Ytbdhicjebeoakaa
