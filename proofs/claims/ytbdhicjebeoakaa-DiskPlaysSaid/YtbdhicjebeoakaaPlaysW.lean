/- The walk of lockagelaw03.DiskPlays. -/
import Derived.Test.YtbdhicjebeoakaaTwo
set_option linter.unusedVariables false
set_option linter.unusedSimpArgs false
namespace Go.Proofs.Ytbdhicjebeoakaa
open Go.RowKit

theorem pair_new (n : Nat) {W w w' : World} {b : Nat} (h : Own W w b (DSt.new n)) {r : Nat} (hb : Below w.heap.size w w') (hr : IsRef w' (fun k => w.heap.size ≤ k ∧ k < w'.heap.size) r (DSt.new n)) : Pair W w' b r (DSt.new n) (DSt.new n) := by
  have hs := h.below.size
  exact ⟨h.below.trans (hb.mono hs), _, _, fun k hk => hk.1, fun k hk => by omega, fun k hk hk' => by omega, h.disk.below hb, hr⟩
set_option maxRecDepth 100000 in
set_option maxHeartbeats 4000000 in
theorem plays_walk (n : Int) (w : World) (ad : Option Addr) (m c : Nat) (x : Nat → OpV) (hX : OpArg w ad m x) (hn : -9223372036854775808 ≤ n ∧ n ≤ 9223372036854775807) :
    Calls Try.prog 5 #[.int .i64 n, .slice ad m c] w fun e w' => e = .returned (.bool true) ∧ Below w.heap.size w w' := by
  go_enter Try.func5, Try.ntmps5
  go_wp2_with fail
  refine (awake_any _).mono ?_
  rintro e w1 ⟨rfl, hB⟩
  have HB := Lib.hid hB
  clear hB
  by_cases hm : m ≤ 200
  case neg =>
    go_wp2_with fail
    refine (awake_any _).mono ?_
    rintro e w2 ⟨rfl, hB2⟩
    go_wp2_with fail
    go_ret
    exact ⟨rfl, HB.out.trans (hB2.mono HB.out.size)⟩
  by_cases hn2 : n ≤ 200
  case neg =>
    go_wp2_with fail
    refine (awake_any _).mono ?_
    rintro e w2 ⟨rfl, hB2⟩
    go_wp2_with fail
    go_ret
    exact ⟨rfl, HB.out.trans (hB2.mono HB.out.size)⟩
  by_cases hn1 : n < 1
  · go_wp2_with fail
    refine (new_bad n _ (.inl hn1)).mono ?_
    rintro e w' ⟨rfl, rfl⟩
    go_wp2_with fail
    go_ret
    exact ⟨rfl, HB.out⟩
  obtain ⟨N, rfl⟩ := Int.eq_ofNat_of_zero_le (show 0 ≤ n by omega)
  have hN1 : 1 ≤ N := by omega
  have hN2 : N ≤ 200 := by omega
  go_wp2_with fail
  refine (own_new N w1 hN1 (by omega)).mono ?_
  rintro e w2 ⟨b, rfl, h0⟩
  have H0 := Lib.hid (h0.under HB.out)
  clear h0
  go_wp2_with fail
  refine (ref_new N w2 hN1 (by omega)).mono ?_
  rintro e w3 ⟨r, rfl, hb3, hr3⟩
  have H1 := Lib.hid (pair_new N H0.out hb3 hr3)
  clear H0 hb3 hr3
  go_wp2_with fail
  go_loopw [46] (fun p wr => ∃ (i : Nat) (d : DSt), p = .int .i64 (i : Int) ∧ i ≤ m ∧ d.writes ≤ i ∧ d.kept.length = N ∧ Pair w wr b r d d) (fun p wr => match p with | .int _ i => m - i.toNat | _ => 0)
  case atStart => exact ⟨0, _, rfl, by omega, by simp [DSt.new], by simp [DSt.new], H1.out⟩
  case round =>
    obtain ⟨i, d, rfl, hi2, hwr, hlen, hP⟩ := hrel
    have HP := Lib.hid hP
    have HWR := Lib.hid hwr
    have HLEN := Lib.hid hlen
    clear hP hwr hlen H1
    by_cases hlt : i < m
    · obtain ⟨g, off, rfl⟩ := hX.form hlt
      have hx6 := hX.later HP.out.below hlt
      have hok := hX.ok hlt
      generalize x i = oi at hx6 hok
      obtain ⟨ok, oa, os, orw, oc, ob⟩ := oi
      have HX : Hid (∀ j v, [Value.int .i64 ok, .int .i64 oa, .string os, .bool orw, .int .i64 oc, .int .u64 ob][j]? = some v → wr.cell? ⟨g, off + i * 6 + j, none⟩ = some v) := Lib.hid hx6
      have HOK := Lib.hid hok
      clear hx6 hok
      have HV := Lib.hid (HP.out.var #[Value.int .i64 ok, .int .i64 oa, .string os, .bool orw, .int .i64 oc, .int .u64 ob] 35)
      by_cases hlenS : os.size ≤ 200
      case neg =>
        go_wp2_with (with_reducible refine wpList_load_cells rfl _ _ rfl g (off + i * 6) (by go_simp) _ [.int .i64 ok, .int .i64 oa, .string os, .bool orw, .int .i64 oc, .int .u64 ob] Try.underlying35 rfl (by kernel_rfl) HX.out ?_)
        go_ret
        exact ⟨rfl, HV.out.below⟩
      cases orw
      · skip
        by_cases k1 : ok = 1
        · subst k1
          go_wp2_with (first | (with_reducible refine wpList_load_cells rfl _ _ rfl g (off + i * 6) (by go_simp) _ [.int .i64 1, .int .i64 oa, .string os, .bool false, .int .i64 oc, .int .u64 ob] Try.underlying35 rfl (by kernel_rfl) HX.out ?_) | (go_at_call 14; refine (fill_all _ _).mono ?_; rintro e w' ⟨rfl, rfl⟩))
          have HS : ∃ d1 d2, Two w (wr.alloc (.cells #[Value.int .i64 1, .int .i64 oa, .string os, .bool false, .int .i64 oc, .int .u64 ob] 35)).drew b r d1 d2 wr.heap.size (.cells #[Value.int .i64 1, .int .i64 oa, .string os, .bool false, .int .i64 oc, .int .u64 ob] 35 (0, 0)) := ⟨d, d, HV.out.drew⟩
          refine wp_head_ord 10 [0, 1, 2, 3, 5, 6, 7, 8, 4, 9] [true, true, true, true, true, true, true, true, false, false] (fun W => ∃ d1 d2, Two w W b r d1 d2 wr.heap.size (.cells #[Value.int .i64 1, .int .i64 oa, .string os, .bool false, .int .i64 oc, .int .u64 ob] 35 (0, 0))) (by kernel_rfl) (by kernel_rfl) (fun _ _ d _ _ h => by cases d <;> exact h) HS ?_
          clear HS
          simp only [List.map_cons, List.map_nil, List.getD_cons_succ, List.getD_cons_zero, List.drop_succ_cons, List.drop_zero]
          refine wpHead_take (.pointer (some ⟨b, 0, none⟩)) rfl (fun W hW => by go_simp) ?_
          simp only [Act.put, List.setIfInBounds_toArray, List.set_cons_succ, List.set_cons_zero]
          refine wpHead_take (.pointer (some ⟨wr.heap.size, 1, none⟩)) rfl (fun W hW => by go_simp) ?_
          simp only [Act.put, List.setIfInBounds_toArray, List.set_cons_succ, List.set_cons_zero]
          refine wpHead_take (.int .i64 oa) rfl (fun W hW => by obtain ⟨d1, d2, hT⟩ := hW; have hcell : W.cell? ⟨wr.heap.size, 1, none⟩ = some (.int .i64 oa) := (by rw [block_cell hT.var]; rfl); clear hT; go_simp) ?_
          simp only [Act.put, List.setIfInBounds_toArray, List.set_cons_succ, List.set_cons_zero]
          refine wpHead_take (.string (⟨(fillL os.data.toList).toArray⟩ : ByteArray)) rfl (fun W hW => by go_simp) ?_
          simp only [Act.put, List.setIfInBounds_toArray, List.set_cons_succ, List.set_cons_zero]
          refine wpHead_take (.pointer (some ⟨r, 0, none⟩)) rfl (fun W hW => by go_simp) ?_
          simp only [Act.put, List.setIfInBounds_toArray, List.set_cons_succ, List.set_cons_zero]
          refine wpHead_take (.pointer (some ⟨wr.heap.size, 1, none⟩)) rfl (fun W hW => by go_simp) ?_
          simp only [Act.put, List.setIfInBounds_toArray, List.set_cons_succ, List.set_cons_zero]
          refine wpHead_take (.int .i64 oa) rfl (fun W hW => by obtain ⟨d1, d2, hT⟩ := hW; have hcell : W.cell? ⟨wr.heap.size, 1, none⟩ = some (.int .i64 oa) := (by rw [block_cell hT.var]; rfl); clear hT; go_simp) ?_
          simp only [Act.put, List.setIfInBounds_toArray, List.set_cons_succ, List.set_cons_zero]
          refine wpHead_take (.string (⟨(fillL os.data.toList).toArray⟩ : ByteArray)) rfl (fun W hW => by go_simp) ?_
          simp only [Act.put, List.setIfInBounds_toArray, List.set_cons_succ, List.set_cons_zero]
          obtain ⟨cc, d9, hw9⟩ : ∃ cc d9, d.write oa (⟨(fillL os.data.toList).toArray⟩ : ByteArray).data.toList = (cc, d9) := ⟨_, _, rfl⟩
          have hl9 : d9.kept.length = N := by have := write_len d oa (⟨(fillL os.data.toList).toArray⟩ : ByteArray).data.toList; rw [hw9] at this; rw [← HLEN.out]; exact this
          have hr9 : d9.writes ≤ i + 1 := by have := write_writes d oa (⟨(fillL os.data.toList).toArray⟩ : ByteArray).data.toList; rw [hw9] at this; have h2 := HWR.out; simp only at this; omega
          have h9 : d.writes < 1000000000 := by have := HWR.out; omega
          have hc1 := two_write HV.out.drew oa (⟨(fillL os.data.toList).toArray⟩ : ByteArray) h9
          rw [hw9] at hc1
          refine wpHead_force rfl (fun K hK => ?_)
          go_simp
          refine hc1.mono ?_
          rintro e w8 ⟨rfl, h8⟩
          refine hK _ _ ⟨_, _, h8⟩ ?_
          clear hK K hc1
          have hc2 := two_rwrite h8 oa (⟨(fillL os.data.toList).toArray⟩ : ByteArray) h9
          rw [hw9] at hc2
          refine wpHead_force rfl (fun K hK => ?_)
          go_simp
          refine hc2.mono ?_
          rintro e w9 ⟨rfl, hT⟩
          refine hK _ _ ⟨_, _, hT⟩ ?_
          clear hK K hc2 h8
          refine wpHead_nil ?_
          have HT := Lib.hid hT
          have HL9 := Lib.hid hl9
          have HR9 := Lib.hid hr9
          clear hT hl9 hr9 hw9
          go_wp2_with fail
          obtain ⟨kb, kcap, -, c2, c5, -⟩ := HT.out.pair.refCells
          refine wp_still_tail 21 (by kernel_rfl) (by kernel_rfl) ?_
          simp only [List.take_succ_cons, List.take_zero, List.drop_succ_cons, List.drop_zero]
          still_step
          still_call ((pair_down HT.out.pair.drew).mono fun e w'' h => ⟨h.1, h.2.symm⟩)
          iterate 7 still_step
          still_call ((pair_writes HT.out.pair.drew).mono fun e w'' h => ⟨h.1, h.2.symm⟩)
          iterate 8 still_step
          still_call ((pair_len HT.out.pair.drew HL9.out).mono fun e w'' h => ⟨h.1, h.2.symm⟩)
          iterate 2 still_step
          refine wpStill_nil ?_
          have HD := Lib.hid HT.out.pair.drew
          clear c2 c5
          go_wp2_with fail
          go_round
          case rel => exact ⟨i + 1, _, rfl, by omega, HR9.out, HL9.out, HD.out⟩
          case measure =>
            show m - ((i : Int) + 1).toNat < m - (i : Int).toNat
            omega
        by_cases k2 : ok = 2
        · subst k2
          go_wp2_with (first | (with_reducible refine wpList_load_cells rfl _ _ rfl g (off + i * 6) (by go_simp) _ [.int .i64 2, .int .i64 oa, .string os, .bool false, .int .i64 oc, .int .u64 ob] Try.underlying35 rfl (by kernel_rfl) HX.out ?_) | (go_at_call 14; refine (fill_all _ _).mono ?_; rintro e w' ⟨rfl, rfl⟩))
          refine (two_flush HV.out).mono ?_
          rintro e w8 ⟨rfl, h8⟩
          have H8 := Lib.hid h8
          clear h8
          go_wp2_with fail
          refine (two_rflush H8.out).mono ?_
          rintro e w9 ⟨rfl, hT⟩
          have HT := Lib.hid hT
          have HL9 := Lib.hid ((flush_len d).trans HLEN.out)
          have HR9 := Lib.hid (show d.flush.2.writes ≤ (i : Int) + 1 by rw [flush_writes]; have := HWR.out; omega)
          clear hT
          go_wp2_with fail
          obtain ⟨kb, kcap, -, c2, c5, -⟩ := HT.out.pair.refCells
          refine wp_still_tail 21 (by kernel_rfl) (by kernel_rfl) ?_
          simp only [List.take_succ_cons, List.take_zero, List.drop_succ_cons, List.drop_zero]
          still_step
          still_call ((pair_down HT.out.pair.drew).mono fun e w'' h => ⟨h.1, h.2.symm⟩)
          iterate 7 still_step
          still_call ((pair_writes HT.out.pair.drew).mono fun e w'' h => ⟨h.1, h.2.symm⟩)
          iterate 8 still_step
          still_call ((pair_len HT.out.pair.drew HL9.out).mono fun e w'' h => ⟨h.1, h.2.symm⟩)
          iterate 2 still_step
          refine wpStill_nil ?_
          have HD := Lib.hid HT.out.pair.drew
          clear c2 c5
          go_wp2_with fail
          go_round
          case rel => exact ⟨i + 1, _, rfl, by omega, HR9.out, HL9.out, HD.out⟩
          case measure =>
            show m - ((i : Int) + 1).toNat < m - (i : Int).toNat
            omega
        by_cases k3 : ok = 3
        · subst k3
          go_wp2_with (first | (with_reducible refine wpList_load_cells rfl _ _ rfl g (off + i * 6) (by go_simp) _ [.int .i64 3, .int .i64 oa, .string os, .bool false, .int .i64 oc, .int .u64 ob] Try.underlying35 rfl (by kernel_rfl) HX.out ?_) | (go_at_call 14; refine (fill_all _ _).mono ?_; rintro e w' ⟨rfl, rfl⟩))
          refine (two_read HV.out oa).mono ?_
          rintro e w8 ⟨rfl, h8⟩
          have v1 : w8.cell? ⟨wr.heap.size, 1, none⟩ = some (.int .i64 oa) := by rw [block_cell h8.var]; rfl
          have H8 := Lib.hid h8
          clear h8
          go_wp2_with fail
          refine (two_rread H8.out oa).mono ?_
          rintro e w9 ⟨rfl, rfl⟩
          have HT := H8
          have HL9 := Lib.hid (HLEN.out)
          have HR9 := Lib.hid (show d.writes ≤ (i : Int) + 1 by have := HWR.out; omega)
          go_wp2_with fail
          obtain ⟨kb, kcap, -, c2, c5, -⟩ := HT.out.pair.refCells
          refine wp_still_tail 21 (by kernel_rfl) (by kernel_rfl) ?_
          simp only [List.take_succ_cons, List.take_zero, List.drop_succ_cons, List.drop_zero]
          still_step
          still_call ((pair_down HT.out.pair.drew).mono fun e w'' h => ⟨h.1, h.2.symm⟩)
          iterate 7 still_step
          still_call ((pair_writes HT.out.pair.drew).mono fun e w'' h => ⟨h.1, h.2.symm⟩)
          iterate 8 still_step
          still_call ((pair_len HT.out.pair.drew HL9.out).mono fun e w'' h => ⟨h.1, h.2.symm⟩)
          iterate 2 still_step
          refine wpStill_nil ?_
          have HD := Lib.hid HT.out.pair.drew
          clear c2 c5
          go_wp2_with fail
          go_round
          case rel => exact ⟨i + 1, _, rfl, by omega, HR9.out, HL9.out, HD.out⟩
          case measure =>
            show m - ((i : Int) + 1).toNat < m - (i : Int).toNat
            omega
        by_cases k4 : ok = 4
        · subst k4
          go_wp2_with (first | (with_reducible refine wpList_load_cells rfl _ _ rfl g (off + i * 6) (by go_simp) _ [.int .i64 4, .int .i64 oa, .string os, .bool false, .int .i64 oc, .int .u64 ob] Try.underlying35 rfl (by kernel_rfl) HX.out ?_) | (go_at_call 14; refine (fill_all _ _).mono ?_; rintro e w' ⟨rfl, rfl⟩))
          refine (two_arm HV.out oc ob HOK.out.cat.2 HOK.out.cbits.1 HOK.out.cbits.2).mono ?_
          rintro e w8 ⟨rfl, h8⟩
          have v4 : w8.cell? ⟨wr.heap.size, 4, none⟩ = some (.int .i64 oc) := by rw [block_cell h8.var]; rfl
          have v5 : w8.cell? ⟨wr.heap.size, 5, none⟩ = some (.int .u64 ob) := by rw [block_cell h8.var]; rfl
          have H8 := Lib.hid h8
          clear h8
          go_wp2_with fail
          refine (two_rarm H8.out oc ob HOK.out.cat.2 HOK.out.cbits.1 HOK.out.cbits.2).mono ?_
          rintro e w9 ⟨rfl, hT⟩
          have HT := Lib.hid hT
          have HL9 := Lib.hid (show (d.arm oc ob).kept.length = N from HLEN.out)
          have HR9 := Lib.hid (show (d.arm oc ob).writes ≤ (i : Int) + 1 by show d.writes ≤ _; have := HWR.out; omega)
          clear hT
          go_wp2_with fail
          obtain ⟨kb, kcap, -, c2, c5, -⟩ := HT.out.pair.refCells
          refine wp_still_tail 21 (by kernel_rfl) (by kernel_rfl) ?_
          simp only [List.take_succ_cons, List.take_zero, List.drop_succ_cons, List.drop_zero]
          still_step
          still_call ((pair_down HT.out.pair.drew).mono fun e w'' h => ⟨h.1, h.2.symm⟩)
          iterate 7 still_step
          still_call ((pair_writes HT.out.pair.drew).mono fun e w'' h => ⟨h.1, h.2.symm⟩)
          iterate 8 still_step
          still_call ((pair_len HT.out.pair.drew HL9.out).mono fun e w'' h => ⟨h.1, h.2.symm⟩)
          iterate 2 still_step
          refine wpStill_nil ?_
          have HD := Lib.hid HT.out.pair.drew
          clear c2 c5
          go_wp2_with fail
          go_round
          case rel => exact ⟨i + 1, _, rfl, by omega, HR9.out, HL9.out, HD.out⟩
          case measure =>
            show m - ((i : Int) + 1).toNat < m - (i : Int).toNat
            omega
        by_cases k5 : ok = 5
        · subst k5
          go_wp2_with (first | (with_reducible refine wpList_load_cells rfl _ _ rfl g (off + i * 6) (by go_simp) _ [.int .i64 5, .int .i64 oa, .string os, .bool false, .int .i64 oc, .int .u64 ob] Try.underlying35 rfl (by kernel_rfl) HX.out ?_) | (go_at_call 14; refine (fill_all _ _).mono ?_; rintro e w' ⟨rfl, rfl⟩))
          refine (two_crash HV.out ob HOK.out.cbits.1 HOK.out.cbits.2).mono ?_
          rintro e w8 ⟨rfl, h8⟩
          have v5 : w8.cell? ⟨wr.heap.size, 5, none⟩ = some (.int .u64 ob) := by rw [block_cell h8.var]; rfl
          have H8 := Lib.hid h8
          clear h8
          go_wp2_with fail
          refine (two_rcrash H8.out ob HOK.out.cbits.1 HOK.out.cbits.2).mono ?_
          rintro e w9 ⟨rfl, hT⟩
          have HT := Lib.hid hT
          have HL9 := Lib.hid ((crash_len d ob).trans HLEN.out)
          have HR9 := Lib.hid (show (d.crash ob).writes ≤ (i : Int) + 1 by rw [crash_writes]; have := HWR.out; omega)
          clear hT
          go_wp2_with fail
          obtain ⟨kb, kcap, -, c2, c5, -⟩ := HT.out.pair.refCells
          refine wp_still_tail 21 (by kernel_rfl) (by kernel_rfl) ?_
          simp only [List.take_succ_cons, List.take_zero, List.drop_succ_cons, List.drop_zero]
          still_step
          still_call ((pair_down HT.out.pair.drew).mono fun e w'' h => ⟨h.1, h.2.symm⟩)
          iterate 7 still_step
          still_call ((pair_writes HT.out.pair.drew).mono fun e w'' h => ⟨h.1, h.2.symm⟩)
          iterate 8 still_step
          still_call ((pair_len HT.out.pair.drew HL9.out).mono fun e w'' h => ⟨h.1, h.2.symm⟩)
          iterate 2 still_step
          refine wpStill_nil ?_
          have HD := Lib.hid HT.out.pair.drew
          clear c2 c5
          go_wp2_with fail
          go_round
          case rel => exact ⟨i + 1, _, rfl, by omega, HR9.out, HL9.out, HD.out⟩
          case measure =>
            show m - ((i : Int) + 1).toNat < m - (i : Int).toNat
            omega
        go_wp2_with (first | (with_reducible refine wpList_load_cells rfl _ _ rfl g (off + i * 6) (by go_simp) _ [.int .i64 ok, .int .i64 oa, .string os, .bool false, .int .i64 oc, .int .u64 ob] Try.underlying35 rfl (by kernel_rfl) HX.out ?_) | (go_at_call 14; refine (fill_all _ _).mono ?_; rintro e w' ⟨rfl, rfl⟩))
        refine (two_start HV.out).mono ?_
        rintro e w8 ⟨rfl, h8⟩
        have H8 := Lib.hid h8
        clear h8
        go_wp2_with fail
        refine (two_rstart H8.out).mono ?_
        rintro e w9 ⟨rfl, hT⟩
        have HT := Lib.hid hT
        have HL9 := Lib.hid (show d.start.kept.length = N from HLEN.out)
        have HR9 := Lib.hid (show d.start.writes ≤ (i : Int) + 1 by show d.writes ≤ _; have := HWR.out; omega)
        clear hT
        go_wp2_with fail
        obtain ⟨kb, kcap, -, c2, c5, -⟩ := HT.out.pair.refCells
        refine wp_still_tail 21 (by kernel_rfl) (by kernel_rfl) ?_
        simp only [List.take_succ_cons, List.take_zero, List.drop_succ_cons, List.drop_zero]
        still_step
        still_call ((pair_down HT.out.pair.drew).mono fun e w'' h => ⟨h.1, h.2.symm⟩)
        iterate 7 still_step
        still_call ((pair_writes HT.out.pair.drew).mono fun e w'' h => ⟨h.1, h.2.symm⟩)
        iterate 8 still_step
        still_call ((pair_len HT.out.pair.drew HL9.out).mono fun e w'' h => ⟨h.1, h.2.symm⟩)
        iterate 2 still_step
        refine wpStill_nil ?_
        have HD := Lib.hid HT.out.pair.drew
        clear c2 c5
        go_wp2_with fail
        go_round
        case rel => exact ⟨i + 1, _, rfl, by omega, HR9.out, HL9.out, HD.out⟩
        case measure =>
          show m - ((i : Int) + 1).toNat < m - (i : Int).toNat
          omega
      · skip
        by_cases k1 : ok = 1
        · subst k1
          go_wp2_with (first | (with_reducible refine wpList_load_cells rfl _ _ rfl g (off + i * 6) (by go_simp) _ [.int .i64 1, .int .i64 oa, .string os, .bool true, .int .i64 oc, .int .u64 ob] Try.underlying35 rfl (by kernel_rfl) HX.out ?_))
          have HS : ∃ d1 d2, Two w (wr.alloc (.cells #[Value.int .i64 1, .int .i64 oa, .string os, .bool true, .int .i64 oc, .int .u64 ob] 35)).drew b r d1 d2 wr.heap.size (.cells #[Value.int .i64 1, .int .i64 oa, .string os, .bool true, .int .i64 oc, .int .u64 ob] 35 (0, 0)) := ⟨d, d, HV.out.drew⟩
          refine wp_head_ord 10 [0, 1, 2, 3, 5, 6, 7, 8, 4, 9] [true, true, true, true, true, true, true, true, false, false] (fun W => ∃ d1 d2, Two w W b r d1 d2 wr.heap.size (.cells #[Value.int .i64 1, .int .i64 oa, .string os, .bool true, .int .i64 oc, .int .u64 ob] 35 (0, 0))) (by kernel_rfl) (by kernel_rfl) (fun _ _ d _ _ h => by cases d <;> exact h) HS ?_
          clear HS
          simp only [List.map_cons, List.map_nil, List.getD_cons_succ, List.getD_cons_zero, List.drop_succ_cons, List.drop_zero]
          refine wpHead_take (.pointer (some ⟨b, 0, none⟩)) rfl (fun W hW => by go_simp) ?_
          simp only [Act.put, List.setIfInBounds_toArray, List.set_cons_succ, List.set_cons_zero]
          refine wpHead_take (.pointer (some ⟨wr.heap.size, 1, none⟩)) rfl (fun W hW => by go_simp) ?_
          simp only [Act.put, List.setIfInBounds_toArray, List.set_cons_succ, List.set_cons_zero]
          refine wpHead_take (.int .i64 oa) rfl (fun W hW => by obtain ⟨d1, d2, hT⟩ := hW; have hcell : W.cell? ⟨wr.heap.size, 1, none⟩ = some (.int .i64 oa) := (by rw [block_cell hT.var]; rfl); clear hT; go_simp) ?_
          simp only [Act.put, List.setIfInBounds_toArray, List.set_cons_succ, List.set_cons_zero]
          refine wpHead_take (.string os) rfl (fun W hW => by go_simp) ?_
          simp only [Act.put, List.setIfInBounds_toArray, List.set_cons_succ, List.set_cons_zero]
          refine wpHead_take (.pointer (some ⟨r, 0, none⟩)) rfl (fun W hW => by go_simp) ?_
          simp only [Act.put, List.setIfInBounds_toArray, List.set_cons_succ, List.set_cons_zero]
          refine wpHead_take (.pointer (some ⟨wr.heap.size, 1, none⟩)) rfl (fun W hW => by go_simp) ?_
          simp only [Act.put, List.setIfInBounds_toArray, List.set_cons_succ, List.set_cons_zero]
          refine wpHead_take (.int .i64 oa) rfl (fun W hW => by obtain ⟨d1, d2, hT⟩ := hW; have hcell : W.cell? ⟨wr.heap.size, 1, none⟩ = some (.int .i64 oa) := (by rw [block_cell hT.var]; rfl); clear hT; go_simp) ?_
          simp only [Act.put, List.setIfInBounds_toArray, List.set_cons_succ, List.set_cons_zero]
          refine wpHead_take (.string os) rfl (fun W hW => by go_simp) ?_
          simp only [Act.put, List.setIfInBounds_toArray, List.set_cons_succ, List.set_cons_zero]
          obtain ⟨cc, d9, hw9⟩ : ∃ cc d9, d.write oa os.data.toList = (cc, d9) := ⟨_, _, rfl⟩
          have hl9 : d9.kept.length = N := by have := write_len d oa os.data.toList; rw [hw9] at this; rw [← HLEN.out]; exact this
          have hr9 : d9.writes ≤ i + 1 := by have := write_writes d oa os.data.toList; rw [hw9] at this; have h2 := HWR.out; simp only at this; omega
          have h9 : d.writes < 1000000000 := by have := HWR.out; omega
          have hc1 := two_write HV.out.drew oa os h9
          rw [hw9] at hc1
          refine wpHead_force rfl (fun K hK => ?_)
          go_simp
          refine hc1.mono ?_
          rintro e w8 ⟨rfl, h8⟩
          refine hK _ _ ⟨_, _, h8⟩ ?_
          clear hK K hc1
          have hc2 := two_rwrite h8 oa os h9
          rw [hw9] at hc2
          refine wpHead_force rfl (fun K hK => ?_)
          go_simp
          refine hc2.mono ?_
          rintro e w9 ⟨rfl, hT⟩
          refine hK _ _ ⟨_, _, hT⟩ ?_
          clear hK K hc2 h8
          refine wpHead_nil ?_
          have HT := Lib.hid hT
          have HL9 := Lib.hid hl9
          have HR9 := Lib.hid hr9
          clear hT hl9 hr9 hw9
          go_wp2_with fail
          obtain ⟨kb, kcap, -, c2, c5, -⟩ := HT.out.pair.refCells
          refine wp_still_tail 21 (by kernel_rfl) (by kernel_rfl) ?_
          simp only [List.take_succ_cons, List.take_zero, List.drop_succ_cons, List.drop_zero]
          still_step
          still_call ((pair_down HT.out.pair.drew).mono fun e w'' h => ⟨h.1, h.2.symm⟩)
          iterate 7 still_step
          still_call ((pair_writes HT.out.pair.drew).mono fun e w'' h => ⟨h.1, h.2.symm⟩)
          iterate 8 still_step
          still_call ((pair_len HT.out.pair.drew HL9.out).mono fun e w'' h => ⟨h.1, h.2.symm⟩)
          iterate 2 still_step
          refine wpStill_nil ?_
          have HD := Lib.hid HT.out.pair.drew
          clear c2 c5
          go_wp2_with fail
          go_round
          case rel => exact ⟨i + 1, _, rfl, by omega, HR9.out, HL9.out, HD.out⟩
          case measure =>
            show m - ((i : Int) + 1).toNat < m - (i : Int).toNat
            omega
        by_cases k2 : ok = 2
        · subst k2
          go_wp2_with (first | (with_reducible refine wpList_load_cells rfl _ _ rfl g (off + i * 6) (by go_simp) _ [.int .i64 2, .int .i64 oa, .string os, .bool true, .int .i64 oc, .int .u64 ob] Try.underlying35 rfl (by kernel_rfl) HX.out ?_))
          refine (two_flush HV.out).mono ?_
          rintro e w8 ⟨rfl, h8⟩
          have H8 := Lib.hid h8
          clear h8
          go_wp2_with fail
          refine (two_rflush H8.out).mono ?_
          rintro e w9 ⟨rfl, hT⟩
          have HT := Lib.hid hT
          have HL9 := Lib.hid ((flush_len d).trans HLEN.out)
          have HR9 := Lib.hid (show d.flush.2.writes ≤ (i : Int) + 1 by rw [flush_writes]; have := HWR.out; omega)
          clear hT
          go_wp2_with fail
          obtain ⟨kb, kcap, -, c2, c5, -⟩ := HT.out.pair.refCells
          refine wp_still_tail 21 (by kernel_rfl) (by kernel_rfl) ?_
          simp only [List.take_succ_cons, List.take_zero, List.drop_succ_cons, List.drop_zero]
          still_step
          still_call ((pair_down HT.out.pair.drew).mono fun e w'' h => ⟨h.1, h.2.symm⟩)
          iterate 7 still_step
          still_call ((pair_writes HT.out.pair.drew).mono fun e w'' h => ⟨h.1, h.2.symm⟩)
          iterate 8 still_step
          still_call ((pair_len HT.out.pair.drew HL9.out).mono fun e w'' h => ⟨h.1, h.2.symm⟩)
          iterate 2 still_step
          refine wpStill_nil ?_
          have HD := Lib.hid HT.out.pair.drew
          clear c2 c5
          go_wp2_with fail
          go_round
          case rel => exact ⟨i + 1, _, rfl, by omega, HR9.out, HL9.out, HD.out⟩
          case measure =>
            show m - ((i : Int) + 1).toNat < m - (i : Int).toNat
            omega
        by_cases k3 : ok = 3
        · subst k3
          go_wp2_with (first | (with_reducible refine wpList_load_cells rfl _ _ rfl g (off + i * 6) (by go_simp) _ [.int .i64 3, .int .i64 oa, .string os, .bool true, .int .i64 oc, .int .u64 ob] Try.underlying35 rfl (by kernel_rfl) HX.out ?_))
          refine (two_read HV.out oa).mono ?_
          rintro e w8 ⟨rfl, h8⟩
          have v1 : w8.cell? ⟨wr.heap.size, 1, none⟩ = some (.int .i64 oa) := by rw [block_cell h8.var]; rfl
          have H8 := Lib.hid h8
          clear h8
          go_wp2_with fail
          refine (two_rread H8.out oa).mono ?_
          rintro e w9 ⟨rfl, rfl⟩
          have HT := H8
          have HL9 := Lib.hid (HLEN.out)
          have HR9 := Lib.hid (show d.writes ≤ (i : Int) + 1 by have := HWR.out; omega)
          go_wp2_with fail
          obtain ⟨kb, kcap, -, c2, c5, -⟩ := HT.out.pair.refCells
          refine wp_still_tail 21 (by kernel_rfl) (by kernel_rfl) ?_
          simp only [List.take_succ_cons, List.take_zero, List.drop_succ_cons, List.drop_zero]
          still_step
          still_call ((pair_down HT.out.pair.drew).mono fun e w'' h => ⟨h.1, h.2.symm⟩)
          iterate 7 still_step
          still_call ((pair_writes HT.out.pair.drew).mono fun e w'' h => ⟨h.1, h.2.symm⟩)
          iterate 8 still_step
          still_call ((pair_len HT.out.pair.drew HL9.out).mono fun e w'' h => ⟨h.1, h.2.symm⟩)
          iterate 2 still_step
          refine wpStill_nil ?_
          have HD := Lib.hid HT.out.pair.drew
          clear c2 c5
          go_wp2_with fail
          go_round
          case rel => exact ⟨i + 1, _, rfl, by omega, HR9.out, HL9.out, HD.out⟩
          case measure =>
            show m - ((i : Int) + 1).toNat < m - (i : Int).toNat
            omega
        by_cases k4 : ok = 4
        · subst k4
          go_wp2_with (first | (with_reducible refine wpList_load_cells rfl _ _ rfl g (off + i * 6) (by go_simp) _ [.int .i64 4, .int .i64 oa, .string os, .bool true, .int .i64 oc, .int .u64 ob] Try.underlying35 rfl (by kernel_rfl) HX.out ?_))
          refine (two_arm HV.out oc ob HOK.out.cat.2 HOK.out.cbits.1 HOK.out.cbits.2).mono ?_
          rintro e w8 ⟨rfl, h8⟩
          have v4 : w8.cell? ⟨wr.heap.size, 4, none⟩ = some (.int .i64 oc) := by rw [block_cell h8.var]; rfl
          have v5 : w8.cell? ⟨wr.heap.size, 5, none⟩ = some (.int .u64 ob) := by rw [block_cell h8.var]; rfl
          have H8 := Lib.hid h8
          clear h8
          go_wp2_with fail
          refine (two_rarm H8.out oc ob HOK.out.cat.2 HOK.out.cbits.1 HOK.out.cbits.2).mono ?_
          rintro e w9 ⟨rfl, hT⟩
          have HT := Lib.hid hT
          have HL9 := Lib.hid (show (d.arm oc ob).kept.length = N from HLEN.out)
          have HR9 := Lib.hid (show (d.arm oc ob).writes ≤ (i : Int) + 1 by show d.writes ≤ _; have := HWR.out; omega)
          clear hT
          go_wp2_with fail
          obtain ⟨kb, kcap, -, c2, c5, -⟩ := HT.out.pair.refCells
          refine wp_still_tail 21 (by kernel_rfl) (by kernel_rfl) ?_
          simp only [List.take_succ_cons, List.take_zero, List.drop_succ_cons, List.drop_zero]
          still_step
          still_call ((pair_down HT.out.pair.drew).mono fun e w'' h => ⟨h.1, h.2.symm⟩)
          iterate 7 still_step
          still_call ((pair_writes HT.out.pair.drew).mono fun e w'' h => ⟨h.1, h.2.symm⟩)
          iterate 8 still_step
          still_call ((pair_len HT.out.pair.drew HL9.out).mono fun e w'' h => ⟨h.1, h.2.symm⟩)
          iterate 2 still_step
          refine wpStill_nil ?_
          have HD := Lib.hid HT.out.pair.drew
          clear c2 c5
          go_wp2_with fail
          go_round
          case rel => exact ⟨i + 1, _, rfl, by omega, HR9.out, HL9.out, HD.out⟩
          case measure =>
            show m - ((i : Int) + 1).toNat < m - (i : Int).toNat
            omega
        by_cases k5 : ok = 5
        · subst k5
          go_wp2_with (first | (with_reducible refine wpList_load_cells rfl _ _ rfl g (off + i * 6) (by go_simp) _ [.int .i64 5, .int .i64 oa, .string os, .bool true, .int .i64 oc, .int .u64 ob] Try.underlying35 rfl (by kernel_rfl) HX.out ?_))
          refine (two_crash HV.out ob HOK.out.cbits.1 HOK.out.cbits.2).mono ?_
          rintro e w8 ⟨rfl, h8⟩
          have v5 : w8.cell? ⟨wr.heap.size, 5, none⟩ = some (.int .u64 ob) := by rw [block_cell h8.var]; rfl
          have H8 := Lib.hid h8
          clear h8
          go_wp2_with fail
          refine (two_rcrash H8.out ob HOK.out.cbits.1 HOK.out.cbits.2).mono ?_
          rintro e w9 ⟨rfl, hT⟩
          have HT := Lib.hid hT
          have HL9 := Lib.hid ((crash_len d ob).trans HLEN.out)
          have HR9 := Lib.hid (show (d.crash ob).writes ≤ (i : Int) + 1 by rw [crash_writes]; have := HWR.out; omega)
          clear hT
          go_wp2_with fail
          obtain ⟨kb, kcap, -, c2, c5, -⟩ := HT.out.pair.refCells
          refine wp_still_tail 21 (by kernel_rfl) (by kernel_rfl) ?_
          simp only [List.take_succ_cons, List.take_zero, List.drop_succ_cons, List.drop_zero]
          still_step
          still_call ((pair_down HT.out.pair.drew).mono fun e w'' h => ⟨h.1, h.2.symm⟩)
          iterate 7 still_step
          still_call ((pair_writes HT.out.pair.drew).mono fun e w'' h => ⟨h.1, h.2.symm⟩)
          iterate 8 still_step
          still_call ((pair_len HT.out.pair.drew HL9.out).mono fun e w'' h => ⟨h.1, h.2.symm⟩)
          iterate 2 still_step
          refine wpStill_nil ?_
          have HD := Lib.hid HT.out.pair.drew
          clear c2 c5
          go_wp2_with fail
          go_round
          case rel => exact ⟨i + 1, _, rfl, by omega, HR9.out, HL9.out, HD.out⟩
          case measure =>
            show m - ((i : Int) + 1).toNat < m - (i : Int).toNat
            omega
        go_wp2_with (first | (with_reducible refine wpList_load_cells rfl _ _ rfl g (off + i * 6) (by go_simp) _ [.int .i64 ok, .int .i64 oa, .string os, .bool true, .int .i64 oc, .int .u64 ob] Try.underlying35 rfl (by kernel_rfl) HX.out ?_))
        refine (two_start HV.out).mono ?_
        rintro e w8 ⟨rfl, h8⟩
        have H8 := Lib.hid h8
        clear h8
        go_wp2_with fail
        refine (two_rstart H8.out).mono ?_
        rintro e w9 ⟨rfl, hT⟩
        have HT := Lib.hid hT
        have HL9 := Lib.hid (show d.start.kept.length = N from HLEN.out)
        have HR9 := Lib.hid (show d.start.writes ≤ (i : Int) + 1 by show d.writes ≤ _; have := HWR.out; omega)
        clear hT
        go_wp2_with fail
        obtain ⟨kb, kcap, -, c2, c5, -⟩ := HT.out.pair.refCells
        refine wp_still_tail 21 (by kernel_rfl) (by kernel_rfl) ?_
        simp only [List.take_succ_cons, List.take_zero, List.drop_succ_cons, List.drop_zero]
        still_step
        still_call ((pair_down HT.out.pair.drew).mono fun e w'' h => ⟨h.1, h.2.symm⟩)
        iterate 7 still_step
        still_call ((pair_writes HT.out.pair.drew).mono fun e w'' h => ⟨h.1, h.2.symm⟩)
        iterate 8 still_step
        still_call ((pair_len HT.out.pair.drew HL9.out).mono fun e w'' h => ⟨h.1, h.2.symm⟩)
        iterate 2 still_step
        refine wpStill_nil ?_
        have HD := Lib.hid HT.out.pair.drew
        clear c2 c5
        go_wp2_with fail
        go_round
        case rel => exact ⟨i + 1, _, rfl, by omega, HR9.out, HL9.out, HD.out⟩
        case measure =>
          show m - ((i : Int) + 1).toNat < m - (i : Int).toNat
          omega
    · obtain rfl : i = m := by omega
      obtain ⟨kb, kcap, c0, -, -, hk⟩ := HP.out.refCells
      rw [HLEN.out] at c0
      have HKC := Lib.hid hk
      clear hk
      go_wp2_with fail
      go_loopw [161] (fun p w' => ∃ k : Nat, p = .int .i64 (k : Int) ∧ k ≤ N ∧ wr = w') (fun p w' => match p with | .int _ k => N - k.toNat | _ => 0)
      case atStart => exact ⟨0, rfl, by omega, rfl⟩
      case round =>
        obtain ⟨k, rfl, hk2, rfl⟩ := hrel
        by_cases hltk : k < N
        · have hc := HKC.out k (by rw [HLEN.out]; exact hltk)
          have hka : d.keptAt (k : Int) = d.kept.getD k [] := by
            unfold DSt.keptAt
            rw [HLEN.out, if_neg (by omega), Int.toNat_natCast]
          generalize d.kept.getD k [] = s at hc hka
          have HKA := Lib.hid hka
          clear hka
          go_wp2_with (go_at_call 30; refine (pair_kept HP.out HKA.out).mono ?_; rintro e w' ⟨rfl, rfl⟩)
          go_round
          case rel => exact ⟨k + 1, rfl, by omega, by first | trivial | rfl⟩
          case measure =>
            show N - ((k : Int) + 1).toNat < N - (k : Int).toNat
            omega
        · obtain rfl : k = N := by omega
          have HK1 : Hid (d.keptAt (k : Int) = []) := Lib.hid (by unfold DSt.keptAt; rw [HLEN.out, if_pos (by omega)])
          have HK2 : Hid (d.keptAt (-1 : Int) = []) := Lib.hid (by unfold DSt.keptAt; rw [if_pos (by omega)])
          go_wp2_with (first | (go_at_call 30; with_reducible refine (pair_kept HP.out HK1.out).mono ?_; rintro e w' ⟨rfl, rfl⟩) | (go_at_call 30; with_reducible refine (pair_kept HP.out HK2.out).mono ?_; rintro e w' ⟨rfl, rfl⟩))
          go_ret
          exact ⟨rfl, HP.out.below⟩
end Go.Proofs.Ytbdhicjebeoakaa
