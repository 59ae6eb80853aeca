/- disk.Write: the write goes into the cache; an armed power fails at just that write. -/
import Derived.Test.YtbdhicjebeoakaaDoorDisk5
import Derived.Test.YtbdhicjebeoakaaDoorHead
set_option linter.unusedVariables false
set_option linter.unusedSimpArgs false
set_option maxRecDepth 8000
namespace Go.Proofs.YtbdhicjebeoakaaDoor
open Go.RowKit

theorem built_write (x : Int) : Tryd.prog.built 107 [(0, .int .i64 x)] = some ((Value.int .i64 x :: bv zeros64).toArray) := by kernel_rfl
theorem zerosW_cells : (Value.agg zerosW).cells.size = 65 := zerosW_size
theorem info_write : (Tryd.prog.info? 107).map (fun i => (i.zero, i.size, i.bytes)) = some (some (.agg zerosW), 65, 72) := by kernel_rfl
section
variable {ops : Array Oper} {rest : List Oper} {o : Oper} {a : Act} {w : World} {Q : Exit → Act → World → Prop}
theorem wpList_build_write (hg : o.guard = none) (x : Operand) (ho : o.op = .build 107 #[(0, x)]) (k : Nat) (hx : a.eval x = .int .i64 (k : Int))
    (h : wpList Tryd.prog ops Q rest (a.put o.dst (.agg (wrV (k, zeros64)).toArray)) w) : wpList Tryd.prog ops Q (o :: rest) a w := by
  have hb := built_write (k : Int)
  have e : (#[(0, x)].map fun (i, x) => (i, a.eval x)).toList = [(0, .int .i64 (k : Int))] := by simp [hx]
  refine wpList_build hg _ _ ho (by rw [e, hb]; rfl) ?_
  rw [e, hb]
  exact h
/-- The sector's bytes are copied out of a string into the newest block. -/
theorem wpList_copy_in (hg : o.guard = none) (d s : Operand) (ho : o.op = .call { callee := .builtin .copy, args := #[d, s], argTypes := #[52, 9] })
    (k : Nat) (old : List UInt8) (hold : old.length = 64) (t : ByteArray) (ht : t.data.toList.length = 64) (hd : a.eval d = .slice (some ⟨w.heap.size, 1, none⟩) 64 64) (hs : a.eval s = .string t)
    (h : wpList Tryd.prog ops Q rest (a.put o.dst (goInt 64)) (w.alloc (.cells (wrV (k, t.data.toList)).toArray 107))) :
    wpList Tryd.prog ops Q (o :: rest) a (w.alloc (.cells (wrV (k, old)).toArray 107)) := by
  refine wpList_plain hg fun K hK => ?_
  have hsz : t.size = 64 := by rw [← ht, Array.length_toList]; rfl
  have hrun := Lib.run_copy_row_string (P := Tryd.prog) (w.alloc (.cells (wrV (k, old)).toArray 107)) 52 9 o.type 5 w.heap.size 1 64 64 t (wrV (k, old)).toArray 107 (by kernel_rfl) (by kernel_rfl) (heap_alloc_new w _) (by omega) (by simp [wrV, bv_length, hold, hsz])
  have e : ((wrV (k, old)).toArray.toList.take 1 ++ Lib.byteCells t.data.toList ++ (wrV (k, old)).toArray.toList.drop (1 + t.size)).toArray = (wrV (k, t.data.toList)).toArray := by
    rw [hsz, List.drop_of_length_le (by simp [wrV, bv_length, hold])]
    simp [wrV, bv, Lib.byteCells]
  rw [e, alloc_setRow] at hrun
  unfold Oper.wp
  simp [execOp, ho, resolve, invoke, builtin, hd, hs, hrun, Result.andThen, hsz]
  exact hK _ _ h
theorem wpStill_load_new {R : Act → Prop} (hgd : o.guard = none) (x : Operand) (ho : o.op = .load 107 x) (g : Nat) (hx : a.eval x = .pointer (some ⟨g, 0, none⟩)) (p : Nat × List UInt8) (hp : p.2.length = 64) (hg : w.heap[g]? = some (.cells (wrV p).toArray 107 (0, 0)))
    (h : wpStill Tryd.prog ops w R rest (a.put o.dst (.agg (wrV p).toArray))) : wpStill Tryd.prog ops w R (o :: rest) a :=
  wpStill_load_at hgd 107 x ho g 0 hx 107 _ (0, 0) _ (wrV p) hg Tryd.underlying107 rfl (by rw [show (wrV p).length = 65 by simp [wrV, bv_length, hp]]; exact size_write)
    (fun j v hv => by rw [Nat.zero_add, List.getElem?_toArray]; exact hv) h
theorem wp_one_write {K : Act → World → Prop} (x : Operand) (ho : o.op = .buildSlice 99 1 #[(0, x)]) (p : Nat × List UInt8) (hp : p.2.length = 64) (hx : a.eval x = .agg (wrV p).toArray)
    (h : K (a.put o.dst (.slice (some ⟨w.heap.size, 0, none⟩) 1 1)) (w.alloc (.cells (wrV p).toArray 107))) : o.wp Tryd.prog a w K Q :=
  wp_buildOne 99 107 x ho (wrV p).toArray hx 65 (by kernel_rfl) (by kernel_rfl) (by decide) (by decide) (by simp [wrV, bv_length, hp]) h
end

/-- Behind the append and the two stores. -/
theorem DMem.put {w w1 : World} {F : Nat → Prop} {b kb : Nat} {cv cv' : Value} {d : DSt} (h : DMem w F b kb cv d) (hfr : Fr (fun k => cv.ownBlock = some k) w w1) {a : Nat} {s : List UInt8} (ha : a < d.kept.length) (hs : s.length = 64)
    (hown : w1.ownsRow 0 107 65 cv' (d.cache.length + 1) (cacheV d.cache ++ wrV (a, s))) (hcv : ∀ k, cv'.ownBlock = some k → cv.ownBlock = some k ∨ w.heap.size ≤ k) :
    Fr F w ((w1.setCell ⟨b, 1, none⟩ cv').setCell ⟨b, 5, none⟩ (.int .i64 (d.writes + 1))) ∧
    DMem ((w1.setCell ⟨b, 1, none⟩ cv').setCell ⟨b, 5, none⟩ (.int .i64 (d.writes + 1))) (Ext F w w1) b kb cv' (d.put a s) := by
  have hblt := block_lt h.blk
  have hb1 : w1.heap[b]? = some (.cells (diskCells kb cv d) 101 (0, 0)) := (hfr.block b hblt (fun e => h.cv_ne.1 e)).trans h.blk
  have hk1 : w1.heap[kb]? = some (.cells (keptV d.kept).toArray 105 (0, 0)) := (hfr.block kb (block_lt h.kept) (fun e => h.cv_ne.2 e)).trans h.kept
  have hF : Fr F w w1 := hfr.mono fun k hk => h.fc k hk
  refine ⟨(hF.setCell (.inl h.fb) _).setCell (.inl h.fb) _, ?_⟩
  exact {
    blk := by
      have := heap_setCell_six (i := 5) (.int .i64 (d.writes + 1)) (heap_setCell_six (i := 1) cv' hb1)
      rw [this]
      simp [diskCells, DSt.put]
    kept := by rw [heap_setCell_other _ _ _ _ h.kb_ne, heap_setCell_other _ _ _ _ h.kb_ne]; exact hk1
    cache := by
      have e1 : (d.put a s).cache.length = d.cache.length + 1 := by simp [DSt.put]
      have e2 : cacheV (d.put a s).cache = cacheV d.cache ++ wrV (a, s) := by simp only [DSt.put, cacheV, rowV_append]; simp [rowV]
      rw [e1, e2]
      refine ⟨hown.1, ?_⟩
      rcases hown.2 with hn | ⟨g, cap, cur, he, hb, hg, rest⟩
      · exact .inl hn
      · have hgb : g ≠ b := block_ne hg hb1 (by decide)
        exact .inr ⟨g, cap, cur, he, hb, by rw [heap_setCell_other _ _ _ _ hgb, heap_setCell_other _ _ _ _ hgb]; exact hg, rest⟩
    wf := DSt.put_wf h.wf ha hs
    fb := .inl h.fb
    fk := .inl h.fk
    fc := fun k hk => by
      rcases hcv k hk with hc | hc
      · exact .inl (h.fc k hc)
      · refine .inr ⟨hc, ?_⟩
        rcases hown.2 with ⟨rfl, _⟩ | ⟨g, cap, cur, rfl, hb, hg, _⟩
        · simp [Value.ownBlock] at hk
        · have : g = k := by simpa [Value.ownBlock] using hk
          subst this
          exact block_lt hg
    bd := fun k hk => by
      rcases hk with hk | hk
      · have := h.bd k hk; have := hfr.size; simp; omega
      · simp; exact hk.2 }

theorem write_nil (w : World) (at_ : Int) (s : ByteArray) :
    Calls Tryd.prog 76 #[.pointer none, .int .i64 at_, .string s] w fun e w' => e = .returned (.int .i64 8) ∧ w = w' := by
  go_enter Tryd.func76, Tryd.ntmps76
  go_wp2_with (go_at_call 83; refine (check_nil _ _).mono ?_; rintro e w' ⟨rfl, rfl⟩)
  go_ret
  exact ⟨rfl, rfl⟩
theorem write_bad {w : World} {F : Nat → Prop} {b : Nat} {d : DSt} (h : IsDisk w F b d) (at_ : Int) (s : ByteArray) (hc : d.check at_ ≠ 0) :
    Calls Tryd.prog 76 #[.pointer (some ⟨b, 0, none⟩), .int .i64 at_, .string s] w fun e w' => e = .returned (.int .i64 (d.check at_)) ∧ w = w' := by
  have hL := Lib.hid (check_any h at_)
  have hne : (d.check at_ != 0) = true := by simpa using hc
  clear hc h
  go_enter Tryd.func76, Tryd.ntmps76
  go_wp2_with (go_at_call 83; refine hL.out.mono ?_; rintro e w' ⟨rfl, rfl⟩)
  go_ret
  exact ⟨rfl, rfl⟩
theorem write_short {w : World} {F : Nat → Prop} {b : Nat} {d : DSt} (h : IsDisk w F b d) (at_ : Int) (s : ByteArray) (hc : d.check at_ = 0) (hs : s.data.toList.length ≠ 64) :
    Calls Tryd.prog 76 #[.pointer (some ⟨b, 0, none⟩), .int .i64 at_, .string s] w fun e w' => e = .returned (.int .i64 1) ∧ w = w' := by
  have hL := Lib.hid (check_any h at_)
  rw [hc] at hL
  have hne : ((s.size : Int) != 64) = true := by
    have : s.size ≠ 64 := fun e => hs (by rw [← e, Array.length_toList]; rfl)
    simp; omega
  clear hc h hs
  go_enter Tryd.func76, Tryd.ntmps76
  go_wp2_with (go_at_call 83; refine hL.out.mono ?_; rintro e w' ⟨rfl, rfl⟩)
  go_ret
  exact ⟨rfl, rfl⟩

set_option maxHeartbeats 1000000 in
theorem write_good {w : World} {F : Nat → Prop} {b : Nat} {d : DSt} (h : IsDisk w F b d) (i : Nat) (s : ByteArray) (hi : i < d.kept.length) (hoff : d.off = false) (hs : s.data.toList.length = 64) (hwr : d.writes < 1000000000) :
    Calls Tryd.prog 76 #[.pointer (some ⟨b, 0, none⟩), .int .i64 i, .string s] w fun e w' =>
      e = .returned (.int .i64 (d.write i s.data.toList).1) ∧ Fr F w w' ∧ IsDisk w' (Ext F w w') b (d.write i s.data.toList).2 := by
  have hchk : d.check (i : Int) = 0 := by
    unfold DSt.check
    rw [if_neg (by simp [hoff]), if_neg (by omega)]
  have hL := Lib.hid (check_any h (i : Int))
  rw [hchk] at hL
  have hwf := h.wf
  have ha0 := hwf.armed0
  have ha1 := hwf.armed1
  have hc0 := hwf.cw
  have HW : Hid (d.write i s.data.toList = if d.armed = 0 then (0, d.put i s.data.toList) else if 0 < d.armed - 1 then (0, { d.put i s.data.toList with armed := d.armed - 1 }) else (5, ({ d.put i s.data.toList with armed := d.armed - 1 } : DSt).crash d.bits)) := by
    show d.write i s.data.toList = _
    unfold DSt.write
    rw [if_neg (by simp [hchk]), if_neg (by simpa using hs), Int.toNat_natCast]
  have hne : ((s.size : Int) != 64) = false := by
    have : s.size = 64 := by rw [← hs, Array.length_toList]; rfl
    simp; omega
  have HWF := Lib.hid hwf
  have HS := Lib.hid hs
  clear hchk hoff hs hwf
  obtain ⟨kb, cv, hd⟩ := h
  obtain ⟨c0, c1, c2, c3, c4, c5⟩ := hd.cells
  have hblt : b < w.heap.size := block_lt hd.blk
  have HD := Lib.hid hd
  clear hd
  go_enter Tryd.func76, Tryd.ntmps76
  go_wp2_with (first | (go_at_call 83; refine hL.out.mono ?_; rintro e w' ⟨rfl, rfl⟩) | ((with_reducible refine wpList_build_write rfl _ rfl i ?_ ?_); (· rfl)) | (with_reducible refine wpList_new_write rfl rfl ?_) | ((with_reducible refine wpList_put_write rfl _ _ rfl (i, zeros64) rfl ?_ ?_ ?_); (· rfl); (· rfl)) | ((with_reducible refine wpList_copy_in rfl _ _ rfl i zeros64 rfl s HS.out ?_ ?_ ?_); (· rfl); (· rfl)))
  refine wp_head_tail 8 [true, true, true, true, true, true, false, false] (fun W => W.cell? ⟨b, 1, none⟩ = some cv ∧ W.heap[w.heap.size]? = some (.cells (wrV (i, s.data.toList)).toArray 107 (0, 0))) (by kernel_rfl) (by kernel_rfl) (fun _ _ d _ _ h => by cases d <;> exact h)
    ⟨(World.cell?_alloc_lt _ _ _ hblt).trans c1, heap_alloc_new _ _⟩ ?_
  simp only [List.take_succ_cons, List.take_zero, List.drop_succ_cons, List.drop_zero]
  simp only [Act.put, List.setIfInBounds_toArray, List.set_cons_succ, List.set_cons_zero]
  refine wpHead_take (.pointer (some ⟨b, 0, none⟩)) rfl (fun W hW => by go_simp) ?_
  simp only [Act.put, List.setIfInBounds_toArray, List.set_cons_succ, List.set_cons_zero]
  refine wpHead_take (.pointer (some ⟨b, 0, none⟩)) rfl (fun W hW => by go_simp) ?_
  simp only [Act.put, List.setIfInBounds_toArray, List.set_cons_succ, List.set_cons_zero]
  refine wpHead_take (.pointer (some ⟨b, 0, none⟩)) rfl (fun W hW => by go_simp) ?_
  simp only [Act.put, List.setIfInBounds_toArray, List.set_cons_succ, List.set_cons_zero]
  refine wpHead_take (.pointer (some ⟨b, 1, none⟩)) rfl (fun W hW => by go_simp) ?_
  simp only [Act.put, List.setIfInBounds_toArray, List.set_cons_succ, List.set_cons_zero]
  refine wpHead_take cv rfl (fun W hW => by have h1 := hW.1; clear hW; go_simp) ?_
  with_reducible refine wpHead_take (.agg (wrV (i, s.data.toList)).toArray) rfl ?_ ?_
  · intro W hW
    with_reducible refine exec_load_at 107 _ rfl w.heap.size 0 ?_ 107 _ (0, 0) _ (wrV (i, s.data.toList)) hW.2 Tryd.underlying107 ?_ ?_ ?_
    · rfl
    · rfl
    · rw [show (wrV (i, s.data.toList)).length = 65 by simp [wrV, bv_length]; exact HS.out]; exact size_write
    · intro j v hv
      rw [Nat.zero_add, List.getElem?_toArray]; exact hv
  simp only [Act.put, List.setIfInBounds_toArray, List.set_cons_succ, List.set_cons_zero]
  with_reducible refine wpHead_force rfl (fun K hK => ?_)
  with_reducible refine wp_one_write _ rfl (i, s.data.toList) HS.out ?_ ?_
  · rfl
  with_reducible refine hK _ _ ⟨?_, ?_⟩ ?_
  · exact (World.cell?_alloc_lt _ _ _ (by simp; omega)).trans ((World.cell?_alloc_lt _ _ _ hblt).trans c1)
  · exact (Below.heap_alloc _ _ _ (by simp)).trans (heap_alloc_new _ _)
  clear hK K
  simp only [Act.put, List.setIfInBounds_toArray, List.set_cons_succ, List.set_cons_zero]
  with_reducible refine wpHead_force rfl (fun K hK => ?_)
  obtain ⟨i0, hi0, hz0, hz1, hz2⟩ := info_parts info_write
  have hown0 : World.ownsRow ((w.alloc (.cells (wrV (i, s.data.toList)).toArray 107)).drew.alloc (.cells (wrV (i, s.data.toList)).toArray 107)) 0 107 65 cv d.cache.length (cacheV d.cache) :=
    World.ownsRow.alloc (show World.ownsRow (w.alloc (.cells (wrV (i, s.data.toList)).toArray 107)) 0 107 65 cv d.cache.length (cacheV d.cache) from HD.out.cache.alloc _) _
  with_reducible refine wp_append_at _ _ _ 99 rfl 0 107 i0 (.agg zerosW) 65 72 (by kernel_rfl) hi0 hz0 hz1 hz2 zerosW_cells (by decide) cv d.cache.length (cacheV d.cache) ?_ hown0 ⟨(w.alloc (.cells (wrV (i, s.data.toList)).toArray 107)).drew.heap.size, 0, none⟩ 1 1 (wrV (i, s.data.toList)) ?_ (by simp only [wrV, List.length_cons, bv_length, HS.out]) (fun j u hu => ?_) (fun u hu => wrV_one (i, s.data.toList) u (by simpa using hu)) (by simp only [maxLen]; omega) (by omega) (Nat.zero_le _) ?_
  · rfl
  · rfl
  · rw [add_at, block_cell (heap_alloc_new _ _), Nat.zero_add, List.getElem?_toArray]; exact hu
  intro cv' w1 hown1 hg1 _ hat
  have hfr1 : Fr (fun k => cv.ownBlock = some k) w w1 := ((((Fr.refl _ _).alloc _).drew).alloc _).grown hg1 (fun k hk => .inl hk)
  have hcv1 : ∀ k, cv'.ownBlock = some k → cv.ownBlock = some k ∨ w.heap.size ≤ k := by
    intro k hk
    rcases hat with hat | hat
    · exact .inl (hat ▸ hk)
    · rw [hat] at hk
      have : w.heap.size + 1 + 1 = k := by simpa using hk
      exact .inr (by omega)
  obtain ⟨hfr2, hput⟩ := HD.out.put hfr1 hi HS.out hown1 hcv1
  have hb1 : w1.heap[b]? = some (.cells (diskCells kb cv d) 101 (0, 0)) := (hfr1.block b hblt (fun e => HD.out.cv_ne.1 e)).trans HD.out.blk
  have hF1 : Fr F w w1 := hfr1.mono fun k hk => HD.out.fc k hk
  have hsz1 : w.heap.size ≤ w1.heap.size := hfr1.size
  obtain ⟨A', cap', rfl, -, -⟩ := own_form hown1
  have x1 : w1.cell? ⟨b, 1, none⟩ = some cv := block_cell hb1 1
  have x3 : w1.cell? ⟨b, 3, none⟩ = some (.int .i64 d.armed) := block_cell hb1 3
  have x4 : w1.cell? ⟨b, 4, none⟩ = some (.int .u64 d.bits) := block_cell hb1 4
  have x5 : w1.cell? ⟨b, 5, none⟩ = some (.int .i64 d.writes) := block_cell hb1 5
  have y1 : w1.frozen? ⟨b, 1, none⟩ = false := block_free hb1 1
  have y3 : w1.frozen? ⟨b, 3, none⟩ = false := block_free hb1 3
  have y5 : w1.frozen? ⟨b, 5, none⟩ = false := block_free hb1 5
  have hnb : w1.heap[w.heap.size]? = some (.cells (wrV (i, s.data.toList)).toArray 107 (0, 0)) := by
    rw [hg1.block _ (by simp; omega) (fun e => by have := HD.out.bd _ (HD.out.fc _ e.symm); omega), Below.heap_alloc _ _ _ (by simp)]
    exact heap_alloc_new _ _
  with_reducible refine hK _ _ ⟨x1, hnb⟩ (wpHead_nil ?_)
  clear hK K hnb
  have HFR2 := Lib.hid hfr2
  have HPUT := Lib.hid hput
  have HF1 := Lib.hid hF1
  clear hown0 hown1 hg1 hat hfr1 hcv1 hb1 hfr2 hput hF1 hi0 hz0 hz1 hz2 c0 c1 c2 c3 c4 c5
  by_cases h0 : d.armed = 0
  · have HA := Lib.hid h0
    rw [h0] at x3
    clear h0
    go_wp2_with fail
    go_ret
    rw [HW.out, if_pos HA.out]
    refine ⟨rfl, HFR2.out, kb, _, HPUT.out.grow (Ext.mono (by simp)) (fun k hk => ?_)⟩
    rcases hk with hk | hk
    · exact Nat.lt_of_lt_of_le (HD.out.bd k hk) HFR2.out.size
    · exact hk.2
  · have h0' : (d.armed == 0) = false := by simpa using h0
    have H0 := Lib.hid h0
    have hfields : DMem (((w1.setCell ⟨b, 1, none⟩ (.slice A' (d.cache.length + 1) cap')).setCell ⟨b, 5, none⟩ (.int .i64 (d.writes + 1))).setCell ⟨b, 3, none⟩ (.int .i64 (d.armed - 1))) (Ext F w w1) b kb (.slice A' (d.cache.length + 1) cap') { d.put i s.data.toList with armed := d.armed - 1 } := by
      have hp := HPUT.out
      refine hp.fields (heap_setCell_six (i := 3) _ hp.blk) (fun k hk hne => heap_setCell_other _ _ _ _ hne) (by simp) rfl rfl ?_
      exact ⟨hp.wf.pos, hp.wf.most, hp.wf.all, hp.wf.fits, by show 0 ≤ d.armed - 1; omega, by show d.armed - 1 ≤ _; omega, hp.wf.bits0, hp.wf.bits1, hp.wf.cw⟩
    have hfr3 : Fr F w (((w1.setCell ⟨b, 1, none⟩ (.slice A' (d.cache.length + 1) cap')).setCell ⟨b, 5, none⟩ (.int .i64 (d.writes + 1))).setCell ⟨b, 3, none⟩ (.int .i64 (d.armed - 1))) := HFR2.out.setCell (.inl HD.out.fb) _
    have HFIELDS := Lib.hid hfields
    have HFR3 := Lib.hid hfr3
    clear hfields hfr3 h0
    by_cases h1 : 0 < d.armed - 1
    · go_wp2_with fail
      go_ret
      rw [HW.out, if_neg H0.out, if_pos h1]
      refine ⟨rfl, HFR3.out, kb, _, HFIELDS.out.grow (Ext.mono (by simp)) (fun k hk => ?_)⟩
      rcases hk with hk | hk
      · exact Nat.lt_of_lt_of_le (HD.out.bd k hk) HFR3.out.size
      · exact hk.2
    · have hb0 := HWF.out.bits0
      have hb1 := HWF.out.bits1
      go_wp2_with (go_at_call 31; refine (crash_any ⟨kb, _, HFIELDS.out⟩ d.bits hb0 hb1).mono ?_; rintro e w' ⟨rfl, hfr4, hdisk4⟩)
      go_ret
      rw [HW.out, if_neg H0.out, if_neg (by omega)]
      have hsz3 : w1.heap.size ≤ (((w1.setCell ⟨b, 1, none⟩ (.slice A' (d.cache.length + 1) cap')).setCell ⟨b, 5, none⟩ (.int .i64 (d.writes + 1))).setCell ⟨b, 3, none⟩ (.int .i64 (d.armed - 1))).heap.size := by simp
      have hfr5 := HFR3.out.trans (hfr4.mono (Ext.mono hsz3))
      have hs4 := hfr4.size
      refine ⟨rfl, hfr5, hdisk4.grow (fun k hk => ?_) (fun k hk => ?_)⟩
      · rcases hk with (hk | ⟨hk, hk'⟩) | ⟨hk, hk'⟩
        · exact .inl hk
        · exact .inr ⟨hk, by omega⟩
        · exact .inr ⟨by omega, hk'⟩
      · rcases hk with hk | hk
        · exact Nat.lt_of_lt_of_le (HD.out.bd k hk) hfr5.size
        · exact hk.2

/-- disk.Write, whatever the place and the text. -/
theorem write_any {w : World} {F : Nat → Prop} {b : Nat} {d : DSt} (h : IsDisk w F b d) (at_ : Int) (s : ByteArray) (hwr : d.writes < 1000000000) :
    Calls Tryd.prog 76 #[.pointer (some ⟨b, 0, none⟩), .int .i64 at_, .string s] w fun e w' =>
      e = .returned (.int .i64 (d.write at_ s.data.toList).1) ∧ Fr F w w' ∧ IsDisk w' (Ext F w w') b (d.write at_ s.data.toList).2 := by
  have hsame : ∀ {e : Ending} {w' : World} {c : Int}, e = .returned (.int .i64 c) ∧ w = w' → e = .returned (.int .i64 c) ∧ Fr F w w' ∧ IsDisk w' (Ext F w w') b d := by
    rintro e w' c ⟨h1, rfl⟩
    exact ⟨h1, Fr.refl _ _, h.grow (fun k hk => .inl hk) (fun k hk => by rcases hk with hk | hk; exact h.bd k hk; exact hk.2)⟩
  by_cases hc : d.check at_ = 0
  · by_cases hs : s.data.toList.length = 64
    · obtain ⟨h1, h2, h3⟩ := DSt.check_zero hc
      obtain ⟨i, rfl⟩ := Int.eq_ofNat_of_zero_le h2
      exact write_good h i s (by omega) h1 hs hwr
    · have he : d.write at_ s.data.toList = (1, d) := by simp only [DSt.write]; rw [if_neg (by simp [hc]), if_pos hs]
      rw [he]
      exact (write_short h at_ s hc hs).mono fun e w' hh => hsame hh
  · have he : d.write at_ s.data.toList = (d.check at_, d) := by simp only [DSt.write]; rw [if_pos hc]
    rw [he]
    exact (write_bad h at_ s hc).mono fun e w' hh => hsame hh
end Go.Proofs.YtbdhicjebeoakaaDoor
