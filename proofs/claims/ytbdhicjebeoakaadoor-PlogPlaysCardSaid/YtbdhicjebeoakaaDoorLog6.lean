/- lay: a text's sectors written one by one, and flushed. -/
import Derived.Test.YtbdhicjebeoakaaDoorLog3
import Derived.Test.YtbdhicjebeoakaaDoorOrd
set_option linter.unusedVariables false
set_option linter.unusedSimpArgs false
namespace Go.Proofs.YtbdhicjebeoakaaDoor
open Go.RowKit

/-- Written one by one, and flushed. -/
def writesL (d : DSt) (a : Nat) : List (List UInt8) → Int × DSt
  | [] => d.flush
  | t :: r => if (d.write a t).1 = 0 then writesL (d.write a t).2 (a + 1) r else d.write a t
theorem DSt.crash_writes (d : DSt) (b : Int) : (d.crash b).writes = d.writes := by unfold DSt.crash; split <;> rfl
theorem DSt.write_writes (d : DSt) (a : Int) (t : List UInt8) : (d.write a t).2.writes ≤ d.writes + 1 := by
  unfold DSt.write
  split
  · show d.writes ≤ _; omega
  · split
    · show d.writes ≤ _; omega
    · split
      · exact Int.le_refl _
      · split
        · exact Int.le_refl _
        · rw [DSt.crash_writes]; exact Int.le_refl _
def Two2 (F G : Nat → Prop) : Nat → Prop := fun k => F k ∨ G k
theorem IsLog.mk {w : World} {F : Nat → Prop} {lb db : Nat} {rv : Value} {L : LSt} (h : LMem w F lb db rv L) : IsLog w F lb db L := ⟨_, h⟩
set_option maxRecDepth 20000 in
set_option maxHeartbeats 1000000 in
theorem loglay_ok {w : World} {F G : Nat → Prop} {lb db : Nat} {L : LSt} {d : DSt} (h : IsLog w F lb db L) (hd : IsDisk w G db d) (hdis : ∀ k, F k → ¬ G k) (s : List UInt8) (a g no : Nat)
    (hs : s.length ≤ 1000000) (hok : layOk s g no = true) (hst : L.stamp + 1 < 18446744073709551616) (hwr : d.writes + countOf s.length < 1000000000) (ha : a ≤ 1000000) (hl : L.base + 2 * L.half ≤ 1000000) :
    Calls Tryd.prog 61 #[.pointer (some ⟨lb, 0, none⟩), .string ⟨s.toArray⟩, .int .i64 (a : Int), .int .i64 (g : Int), .int .i64 (no : Int)] w fun e w' =>
      e = .returned (.int .i64 (writesL d (L.start g + a) (layL s (L.stamp + 1) g no)).1) ∧ Fr (Two2 F G) w w' ∧ IsLog w' F lb db { L with stamp := L.stamp + 1 } ∧ IsDisk w' (Ext G w w') db (writesL d (L.start g + a) (layL s (L.stamp + 1) g no)).2 := by
  obtain ⟨R, hR⟩ : ∃ R, R = writesL d (L.start g + a) (layL s (L.stamp + 1) g no) := ⟨_, rfl⟩
  rw [← hR]
  have HR := Lib.hid hR
  clear hR
  obtain ⟨rv, hm⟩ := h
  obtain ⟨-, -, -, c3, -⟩ := hm.cells
  have f3 := block_free hm.blk 3
  have HM := Lib.hid hm
  have HD := Lib.hid hd
  have HDIS := Lib.hid hdis
  have HOK := Lib.hid hok
  have hcn : countOf s.length ≤ 1000000 := by unfold countOf; split <;> omega
  have hadd : IntKind.u64.wrap ((L.stamp : Int) + 1) = ((L.stamp + 1 : Nat) : Int) := by rw [IntKind.wrap_u64]; omega
  clear hm hd hdis hok
  go_enter Tryd.func61, Tryd.ntmps61
  go_wp2_with fail
  rw [show (L.stamp : Int) + 1 = ((L.stamp + 1 : Nat) : Int) from rfl]
  obtain ⟨st1, hst1⟩ : ∃ st1, st1 = L.stamp + 1 := ⟨_, rfl⟩
  rw [← hst1] at hst ⊢
  have HR := Lib.hid (show R = writesL d (L.start g + a) (layL s st1 g no) by rw [hst1]; exact HR.out)
  have HM1 : Hid (LMem (w.setCell ⟨lb, 3, none⟩ (.int .u64 (st1 : Int))) F lb db rv { L with stamp := st1 }) := Lib.hid (by
    refine ⟨?_, ownsRow_setCell_other HM.out.recs (a := ⟨lb, 3, none⟩) HM.out.rv_ne _, HM.out.fb, HM.out.fr, fun k hk => by simpa using HM.out.bd k hk⟩
    rw [heap_setCell_six (i := 3) _ HM.out.blk]; simp [logCells])
  have HF1 : Hid (Fr F w (w.setCell ⟨lb, 3, none⟩ (.int .u64 (st1 : Int)))) := Lib.hid ((Fr.refl F w).setCell (.inl HM.out.fb) _)
  have HD1 : Hid (IsDisk (w.setCell ⟨lb, 3, none⟩ (.int .u64 (st1 : Int))) G db d) := Lib.hid (HD.out.frame HF1.out (fun k h1 h2 => HDIS.out k h2 h1))
  clear HM c3 f3 hadd
  have hs1 : (w.setCell ⟨lb, 3, none⟩ (.int .u64 (st1 : Int))).heap.size = w.heap.size := by simp
  generalize w.setCell ⟨lb, 3, none⟩ (.int .u64 (st1 : Int)) = w1 at HM1 HF1 HD1 hs1 ⊢
  have HS1 := Lib.hid hs1
  clear hs1
  refine (lay_ok s st1 g no w1 (by omega) hst HOK.out).mono ?_
  rintro e w2 ⟨v, rfl, hown, hb2⟩
  have hat := hown.at
  obtain ⟨A, cap, rfl, hle, hrow⟩ := hat
  have hAge : ∀ x o, A = some ⟨x, o, none⟩ → w.heap.size ≤ x ∧ x < w2.heap.size := by
    intro x o e
    subst e
    have := hown.lt x rfl
    have h1 := HS1.out
    omega
  have HROW := Lib.hid hrow
  have HAGE := Lib.hid hAge
  have HM2 := Lib.hid (HM1.out.below hb2)
  have HD2 := Lib.hid (HD1.out.below hb2)
  have HF2 := Lib.hid (HF1.out.then_below hb2)
  obtain ⟨n, hn⟩ : ∃ n, n = countOf s.length := ⟨_, rfl⟩
  have hll : (layL s st1 g no).length = n := by rw [layL_length, hn]
  obtain ⟨l, hl'⟩ : ∃ l, l = layL s st1 g no := ⟨_, rfl⟩
  obtain ⟨sa, hsa⟩ : ∃ sa, sa = L.start g := ⟨_, rfl⟩
  have hsa2 : sa ≤ 1000000 := by rw [hsa]; unfold LSt.start; split <;> omega
  have hsa3 : ({ L with stamp := st1 } : LSt).start g = sa := by rw [hsa]; rfl
  have HR := Lib.hid (show R = writesL d (sa + a) l by rw [hsa, hl']; exact HR.out)
  rw [← hl'] at hll HROW ⊢
  rw [← hn] at hwr hcn
  rw [hll]
  have HST := Lib.hid hst1
  have HLL := Lib.hid hll
  have HSA := Lib.hid hsa3
  clear hown hb2 hrow hAge HM1 HD1 HF1 HOK hle hn hl' hsa hsa3 hll HS1 hst1
  go_wp2_with fail
  have END : ∀ w5, Fr G w2 w5 → Fr (Two2 F G) w w5 := fun w5 h => (HF2.out.mono (fun k hk => .inl hk)).trans (h.mono (fun k hk => .inl (.inr hk)))
  have END2 : ∀ w5 d5, Fr G w2 w5 → IsDisk w5 (Ext G w2 w5) db d5 → IsDisk w5 (Ext G w w5) db d5 := fun w5 d5 h1 h2 => h2.grow (fun k hk => by
      rcases hk with hk | hk
      · exact .inl hk
      · exact .inr ⟨by have := HF2.out.size; omega, hk.2⟩) (fun k hk => by
      rcases hk with hk | hk
      · exact Nat.lt_of_lt_of_le (HD.out.bd k hk) (by have := HF2.out.size; have := h1.size; omega)
      · exact hk.2)
  go_loopw [39] (fun u wr => ∃ (k : Nat) (dk : DSt), u = .int .i64 (k : Int) ∧ k ≤ n ∧ Fr G w2 wr ∧ IsDisk wr (Ext G w2 wr) db dk ∧ dk.writes ≤ d.writes + k ∧ Hid (writesL dk (sa + a + k) (l.drop k) = R)) (fun u _ => match u with | .int _ k => n - k.toNat | _ => 0)
  case atStart =>
    refine ⟨0, d, rfl, Nat.zero_le _, Fr.refl _ _, HD2.out.grow (fun k hk => .inl hk) (fun k hk => ?_), by simp, Lib.hid ?_⟩
    · rcases hk with hk | hk
      · exact HD2.out.bd k hk
      · omega
    · simpa using HR.out.symm
  case round =>
    obtain ⟨k, dk, rfl, hk, hfr, hdk, hdw, hrest⟩ := hrel
    have HFR := Lib.hid hfr
    have HDK := Lib.hid hdk
    have HLW := Lib.hid (HM2.out.frame hfr HDIS.out)
    clear hfr hdk
    by_cases hlt : k < n
    · have hkl : k < l.length := by have := HLL.out; omega
      have e1 : l[k]? = some l[k] := List.getElem?_eq_getElem hkl
      have hdrop : l.drop k = l[k] :: l.drop (k + 1) := List.drop_eq_getElem_cons hkl
      generalize l[k] = x at e1 hdrop
      obtain ⟨gb, o, rfl, hc⟩ := HROW.out k x e1
      have hgb := HAGE.out gb o rfl
      have hgG : ¬ G gb := fun hG => by have := HD.out.bd gb hG; omega
      have hc2 : wr.cell? ⟨gb, o + k, none⟩ = some (.string ⟨x.toArray⟩) := by
        rw [← hc]
        exact World.cell?_of_block (HFR.out.block gb hgb.2 hgG)
      have HDROP := Lib.hid hdrop
      clear hc e1 hdrop hgG
      go_upto_region 8 with (fail)
      have hc0 : wr.drew.cell? ⟨lb, 0, none⟩ = some (.pointer (some ⟨db, 0, none⟩)) := HLW.out.cells.1
      have hadd1 : IntKind.i64.wrap ((sa : Int) + a) = (sa : Int) + a := by rw [IntKind.wrap_i64]; omega
      have hadd2 : IntKind.i64.wrap ((sa : Int) + a + k) = (sa : Int) + a + k := by rw [IntKind.wrap_i64]; omega
      have HLD := Lib.hid (HLW.out.below ((Below.refl _ wr).drew))
      have HDD := Lib.hid (HDK.out.below ((Below.refl _ wr).drew))
      have HFD := Lib.hid (HFR.out.drew)
      clear hc2
      refine wp_head_ord 13 [0, 1, 2, 3, 4, 5, 7, 9, 11, 6, 8, 10, 12] [true, true, true, true, true, true, true, true, true, false, false, false, false] (fun W => W.cell? ⟨lb, 0, none⟩ = some (.pointer (some ⟨db, 0, none⟩))) (by kernel_rfl) (by kernel_rfl) (fun _ _ d _ _ h => by cases d <;> exact h) hc0 ?_
      simp only [List.map_cons, List.map_nil, List.getD_cons_succ, List.getD_cons_zero, List.drop_succ_cons, List.drop_zero]
      refine wpHead_take (.pointer (some ⟨lb, 0, none⟩)) rfl (fun W hW => by go_simp) ?_
      try simp only [Act.put, List.setIfInBounds_toArray, List.set_cons_succ, List.set_cons_zero]
      refine wpHead_take (.pointer (some ⟨lb, 0, none⟩)) rfl (fun W hW => by go_simp) ?_
      try simp only [Act.put, List.setIfInBounds_toArray, List.set_cons_succ, List.set_cons_zero]
      refine wpHead_take (.pointer (some ⟨lb, 0, none⟩)) rfl (fun W hW => by go_simp) ?_
      try simp only [Act.put, List.setIfInBounds_toArray, List.set_cons_succ, List.set_cons_zero]
      refine wpHead_take (.pointer (some ⟨db, 0, none⟩)) rfl (fun W hW => by go_simp) ?_
      try simp only [Act.put, List.setIfInBounds_toArray, List.set_cons_succ, List.set_cons_zero]
      refine wpHead_take (.pointer (some ⟨lb, 0, none⟩)) rfl (fun W hW => by go_simp) ?_
      try simp only [Act.put, List.setIfInBounds_toArray, List.set_cons_succ, List.set_cons_zero]
      refine wpHead_take (.int .i64 (g : Int)) rfl (fun W hW => by go_simp) ?_
      try simp only [Act.put, List.setIfInBounds_toArray, List.set_cons_succ, List.set_cons_zero]
      refine wpHead_take (.int .i64 (a : Int)) rfl (fun W hW => by go_simp) ?_
      try simp only [Act.put, List.setIfInBounds_toArray, List.set_cons_succ, List.set_cons_zero]
      refine wpHead_take (.int .i64 (k : Int)) rfl (fun W hW => by go_simp) ?_
      try simp only [Act.put, List.setIfInBounds_toArray, List.set_cons_succ, List.set_cons_zero]
      refine wpHead_take (.string ⟨x.toArray⟩) rfl (fun W hW => by go_simp) ?_
      try simp only [Act.put, List.setIfInBounds_toArray, List.set_cons_succ, List.set_cons_zero]
      have hs3 : wr.heap.size = wr.drew.heap.size := rfl
      generalize wr.drew = w3 at hc0 HLD HDD HFD hs3 ⊢
      refine wpHead_step (fun K hK => ?_) hc0; go_simp
      have hls := lstart_any (IsLog.mk HLD.out) g (show L.base + L.half ≤ 1000000 by omega)
      rw [HSA.out] at hls
      refine hls.mono ?_
      rintro e w4 ⟨rfl, hb4⟩
      have hc0 := (hb4.cell (p := ⟨lb, 0, none⟩) (World.block_lt_of_cell? _ _ hc0)).trans hc0
      have HLD := Lib.hid (HLD.out.below hb4)
      have HDD := Lib.hid (HDD.out.below hb4)
      have HFD := Lib.hid (HFD.out.then_below hb4)
      refine hK _ _ hc0 ?_
      have HS34 := Lib.hid hb4.size
      clear hK K hb4 hls
      iterate 2 (refine wpHead_step (fun K hK => ?_) hc0; go_simp; refine hK _ _ hc0 ?_; clear hK K)
      refine wpHead_step (fun K hK => ?_) hc0; go_simp
      have hwx : dk.writes < 1000000000 := by omega
      have hw := write_any HDD.out ((sa : Int) + a + k) ⟨x.toArray⟩ hwx
      rw [show (sa : Int) + a + k = ((sa + a + k : Nat) : Int) by omega] at hw ⊢
      simp only [] at hw
      obtain ⟨X, hX⟩ : ∃ X, X = dk.write ((sa + a + k : Nat) : Int) x := ⟨_, rfl⟩
      rw [← hX] at hw
      refine hw.mono ?_
      rintro e w5 ⟨rfl, hf5, hd5⟩
      have hXw : X.2.writes ≤ dk.writes + 1 := by rw [hX]; exact DSt.write_writes _ _ _
      have HX := Lib.hid hX
      have hFG : ∀ k, F k → ¬ Ext G w2 wr k := fun k h1 h2 => by
        rcases h2 with h2 | h2
        · exact HDIS.out k h1 h2
        · have := HM2.out.bd k h1; omega
      have hld5 := HLD.out.frame hf5 hFG
      have hc0 : w5.cell? ⟨lb, 0, none⟩ = some (.pointer (some ⟨db, 0, none⟩)) := hld5.cells.1
      have hsw : wr.heap.size ≤ w4.heap.size := by
        have := HS34.out; omega
      have hfr5 : Fr G w2 w5 := HFD.out.trans (hf5.mono (fun k hk => Ext.mono hsw k hk))
      have hdk5 : IsDisk w5 (Ext G w2 w5) db X.2 := hd5.grow (fun k hk => by
          rcases hk with (hk | hk) | hk
          · exact .inl hk
          · exact .inr ⟨hk.1, by have := hf5.size; omega⟩
          · exact .inr ⟨by have := HFD.out.size; omega, hk.2⟩) (fun k hk => by
          rcases hk with hk | hk
          · exact Nat.lt_of_lt_of_le (HD2.out.bd k hk) hfr5.size
          · exact hk.2)
      have HLD5 := Lib.hid hld5
      have HFR5 := Lib.hid hfr5
      have HDK5 := Lib.hid hdk5
      refine hK _ _ hc0 (wpHead_nil ?_)
      clear hK K hX hw hf5 hd5 hld5 hfr5 hdk5 hFG
      obtain ⟨xe, d5⟩ := X
      simp only at hXw HDK5 ⊢
      by_cases hxe : xe = 0
      · have hxb : (xe != 0) = false := by rw [bne_eq_false_iff_eq]; exact hxe
        have HXE := Lib.hid hxe
        clear hxe
        go_wp2_with fail
        refine ⟨⟨k + 1, d5, rfl, by omega, HFR5.out, HDK5.out, by omega, Lib.hid ?_⟩, ?_⟩
        · rw [← hrest.out, HDROP.out, writesL, ← HX.out]
          exact (if_pos HXE.out).symm
        · show n - ((k : Int) + 1).toNat < n - (k : Int).toNat
          omega
      · have hxb : (xe != 0) = true := by rw [bne_iff_ne]; exact hxe
        have HXE := Lib.hid hxe
        clear hxe
        have hRX : R = (xe, d5) := by
          rw [← hrest.out, HDROP.out, writesL, ← HX.out]
          exact if_neg HXE.out
        have HRX := Lib.hid hRX
        clear hRX
        go_wp2_with fail
        go_ret
        rw [HRX.out, ← HST.out]
        exact ⟨rfl, END w5 HFR5.out, IsLog.mk HLD5.out, END2 w5 d5 HFR5.out HDK5.out⟩
    · obtain rfl : k = n := by omega
      have hR2 : R = dk.flush := by
        rw [← hrest.out, List.drop_eq_nil_of_le (by have := HLL.out; omega)]; rfl
      have HR2 := Lib.hid hR2
      have hc0 : wr.cell? ⟨lb, 0, none⟩ = some (.pointer (some ⟨db, 0, none⟩)) := HLW.out.cells.1
      clear hR2 hrest
      go_wp2_with fail
      refine (flush_any HDK.out).mono ?_
      rintro e w5 ⟨rfl, hf5, hd5⟩
      have hfr5 : Fr G w2 w5 := HFR.out.trans hf5
      have hdk5 : IsDisk w5 (Ext G w2 w5) db dk.flush.2 := hd5.grow (fun k hk => Ext.ext HFR.out.size hf5.size k hk) (fun k hk => by
          rcases hk with hk | hk
          · exact Nat.lt_of_lt_of_le (HD2.out.bd k hk) hfr5.size
          · exact hk.2)
      have hFG : ∀ k, F k → ¬ Ext G w2 wr k := fun k h1 h2 => by
        rcases h2 with h2 | h2
        · exact HDIS.out k h1 h2
        · have := HM2.out.bd k h1; omega
      have HLD5 := Lib.hid (HLW.out.frame hf5 hFG)
      have HFR5 := Lib.hid hfr5
      have HDK5 := Lib.hid hdk5
      clear hf5 hd5 hfr5 hdk5 hFG hc0
      go_wp2_with fail
      go_ret
      rw [HR2.out, ← HST.out]
      exact ⟨rfl, END w5 HFR5.out, IsLog.mk HLD5.out, END2 w5 _ HFR5.out HDK5.out⟩
end Go.Proofs.YtbdhicjebeoakaaDoor
