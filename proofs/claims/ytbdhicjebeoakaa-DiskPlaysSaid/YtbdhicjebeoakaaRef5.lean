/- lockageref03: Write. -/
import Derived.Test.YtbdhicjebeoakaaRef4
set_option linter.unusedVariables false
set_option linter.unusedSimpArgs false
namespace Go.Proofs.Ytbdhicjebeoakaa
open Go.RowKit

theorem info_rwrite : (Try.prog.info? 72).map (fun i => (i.zero, i.size, i.bytes)) = some (some (.agg #[.int .i64 0, .string ⟨#[]⟩]), 2, 24) := by kernel_rfl
/-- Behind the append and the two stores. -/
theorem RMem.put {w w1 : World} {F : Nat → Prop} {b kb kcap : Nat} {sp : List Value} {cv cv' : Value} {d : DSt} (h : RMem w F b kb kcap sp cv d) (hfr : Fr (fun k => cv.ownBlock = some k) w w1) {a : Nat} {s : List UInt8} (ha : a < d.kept.length) (hs : s.length = 64)
    (hown : w1.ownsRow 0 72 2 cv' (d.cache.length + 1) (cacheS d.cache ++ wsV (a, s))) (hcv : ∀ k, cv'.ownBlock = some k → cv.ownBlock = some k ∨ w.heap.size ≤ k) :
    Fr F w ((w1.setCell ⟨b, 1, none⟩ cv').setCell ⟨b, 5, none⟩ (.int .i64 (d.writes + 1))) ∧
    RMem ((w1.setCell ⟨b, 1, none⟩ cv').setCell ⟨b, 5, none⟩ (.int .i64 (d.writes + 1))) (Ext F w w1) b kb kcap sp cv' (d.put a s) := by
  have hblt := block_lt h.blk
  have hb1 : w1.heap[b]? = some (.cells (refCells kb kcap cv d) 56 (0, 0)) := (hfr.block b hblt (fun e => h.cv_ne.1 e)).trans h.blk
  have hk1 : w1.heap[kb]? = some (.cells (keptS d.kept ++ sp).toArray 9 (0, 0)) := (hfr.block kb (block_lt h.kept) (fun e => h.cv_ne.2 e)).trans h.kept
  have hF : Fr F w w1 := hfr.mono fun k hk => h.fc k hk
  refine ⟨(hF.setCell (.inl h.fb) _).setCell (.inl h.fb) _, ?_⟩
  exact {
    blk := by
      have := heap_setCell_six (i := 5) (.int .i64 (d.writes + 1)) (heap_setCell_six (i := 1) cv' hb1)
      rw [this]
      simp [refCells, DSt.put]
    kept := by rw [heap_setCell_other _ _ _ _ h.kb_ne, heap_setCell_other _ _ _ _ h.kb_ne]; exact hk1
    cache := by
      have e1 : (d.put a s).cache.length = d.cache.length + 1 := by simp [DSt.put]
      have e2 : cacheS (d.put a s).cache = cacheS d.cache ++ wsV (a, s) := by simp only [DSt.put, cacheS, rowV_append]; simp [rowV]
      rw [e1, e2]
      refine ⟨hown.1, ?_⟩
      rcases hown.2 with hn | ⟨g, cap, cur, he, hb, hg, rest⟩
      · exact .inl hn
      · have hgb : g ≠ b := block_ne hg hb1 (by decide)
        exact .inr ⟨g, cap, cur, he, hb, by rw [heap_setCell_other _ _ _ _ hgb, heap_setCell_other _ _ _ _ hgb]; exact hg, rest⟩
    wf := DSt.put_wf h.wf ha hs
    fb := .inl h.fb
    fk := .inl h.fk
    fc := fun k hk => by
      rcases hcv k hk with hc | hc
      · exact .inl (h.fc k hc)
      · refine .inr ⟨hc, ?_⟩
        rcases hown.2 with ⟨rfl, _⟩ | ⟨g, cap, cur, rfl, hb, hg, _⟩
        · simp [Value.ownBlock] at hk
        · have : g = k := by simpa [Value.ownBlock] using hk
          subst this
          exact block_lt hg
    bd := fun k hk => by
      rcases hk with hk | hk
      · have := h.bd k hk; have := hfr.size; simp; omega
      · simp; exact hk.2 }
theorem wpList_one_rwrite {ops : Array Oper} {rest : List Oper} {o : Oper} {a : Act} {w : World} {Q : Exit → Act → World → Prop} (hg : o.guard = none) (x : Operand) (ho : o.op = .buildSlice 54 1 #[(0, x)]) (p : Nat × List UInt8) (hx : a.eval x = .agg (wsV p).toArray)
    (h : wpList Try.prog ops Q rest (a.put o.dst (.slice (some ⟨w.heap.size, 0, none⟩) 1 1)) (w.alloc (.cells (wsV p).toArray 72))) : wpList Try.prog ops Q (o :: rest) a w :=
  wpList_plain hg fun _ hK => wp_buildOne 54 72 x ho (wsV p).toArray hx 2 (by kernel_rfl) (by kernel_rfl) (by decide) (by decide) rfl (hK _ _ h)

theorem wpList_append_rwrite {ops : Array Oper} {rest : List Oper} {o : Oper} {a : Act} {w : World} {Q : Exit → Act → World → Prop} (hg : o.guard = none) (s x : Operand)
    (ho : o.op = .call { callee := .builtin .append, args := #[s, x], argTypes := #[54, 54] })
    (cv : Value) (n : Nat) (xs : List Value) (p : Nat × List UInt8) (hs : a.eval s = cv) (hown : w.ownsRow 0 72 2 cv n xs) (hx : a.eval x = .slice (some ⟨w.heap.size, 0, none⟩) 1 1) (hn : n ≤ 1000000000)
    (h : ∀ cv' w', w'.ownsRow 0 72 2 cv' (n + 1) (xs ++ wsV p) → (w.alloc (.cells (wsV p).toArray 72)).grownBy w' cv.ownBlock → (cv'.ownBlock = cv.ownBlock ∨ cv'.ownBlock = some (w.heap.size + 1)) → wpList Try.prog ops Q rest (a.put o.dst cv') w') :
    wpList Try.prog ops Q (o :: rest) a (w.alloc (.cells (wsV p).toArray 72)) :=
  wpList_plain hg fun _ hK => by
    obtain ⟨i0, hi0, hz0, hz1, hz2⟩ := info_parts info_rwrite
    refine wp_append_at _ _ _ 54 ho 0 72 i0 (.agg #[.int .i64 0, .string ⟨#[]⟩]) 2 24 (by kernel_rfl) hi0 hz0 hz1 hz2 rfl (by decide) cv n xs hs (World.ownsRow.alloc hown _) ⟨w.heap.size, 0, none⟩ 1 1 (wsV p) hx rfl (fun j u hu => ?_) (fun u hu => ?_) (by simp only [maxLen]; omega) (by omega) (Nat.zero_le _) ?_
    · rw [add_at, block_cell (heap_alloc_new _ _), Nat.zero_add, List.getElem?_toArray]; exact hu
    · simp only [wsV, List.mem_cons, List.not_mem_nil, or_false] at hu
      rcases hu with rfl | rfl <;> rfl
    · intro cv' w1 hown1 hg1 _ hat
      exact hK _ _ (h cv' w1 hown1 hg1 (by simpa using hat))
theorem RMem.put_facts {w w1 : World} {F : Nat → Prop} {b kb kcap : Nat} {sp : List Value} {cv cv' : Value} {d : DSt} (h : RMem w F b kb kcap sp cv d) {a : Nat} {s : List UInt8} (ha : a < d.kept.length) (hs : s.length = 64)
    (hown : w1.ownsRow 0 72 2 cv' (d.cache.length + 1) (cacheS d.cache ++ wsV (a, s))) {o : Obj} (hg1 : (w.alloc o).grownBy w1 cv.ownBlock) (hat : cv'.ownBlock = cv.ownBlock ∨ cv'.ownBlock = some (w.heap.size + 1)) :
    ∃ A' cap', cv' = .slice A' (d.cache.length + 1) cap' ∧ w1.cell? ⟨b, 1, none⟩ = some cv ∧ w1.cell? ⟨b, 3, none⟩ = some (.int .i64 d.armed) ∧ w1.cell? ⟨b, 4, none⟩ = some (.int .u64 d.bits) ∧ w1.cell? ⟨b, 5, none⟩ = some (.int .i64 d.writes) ∧
      w1.frozen? ⟨b, 1, none⟩ = false ∧ w1.frozen? ⟨b, 3, none⟩ = false ∧ w1.frozen? ⟨b, 5, none⟩ = false ∧
      Hid (Fr F w ((w1.setCell ⟨b, 1, none⟩ cv').setCell ⟨b, 5, none⟩ (.int .i64 (d.writes + 1))) ∧ RMem ((w1.setCell ⟨b, 1, none⟩ cv').setCell ⟨b, 5, none⟩ (.int .i64 (d.writes + 1))) (Ext F w w1) b kb kcap sp cv' (d.put a s)) := by
  have hblt := block_lt h.blk
  have hfr1 : Fr (fun k => cv.ownBlock = some k) w w1 := ((Fr.refl _ _).alloc _).grown hg1 (fun k hk => .inl hk)
  have hcv1 : ∀ k, cv'.ownBlock = some k → cv.ownBlock = some k ∨ w.heap.size ≤ k := by
    intro k hk
    rcases hat with hat | hat
    · exact .inl (hat ▸ hk)
    · rw [hat] at hk
      have : w.heap.size + 1 = k := by simpa using hk
      exact .inr (by omega)
  have hput := h.put hfr1 ha hs hown hcv1
  have hb1 : w1.heap[b]? = some (.cells (refCells kb kcap cv d) 56 (0, 0)) := (hfr1.block b hblt (fun e => h.cv_ne.1 e)).trans h.blk
  obtain ⟨A', cap', rfl, -, -⟩ := own_form hown
  exact ⟨A', cap', rfl, block_cell hb1 1, block_cell hb1 3, block_cell hb1 4, block_cell hb1 5, block_free hb1 1, block_free hb1 3, block_free hb1 5, hput⟩
set_option maxHeartbeats 1000000 in
theorem ref_write_good {w : World} {F : Nat → Prop} {b : Nat} {d : DSt} (h : IsRef w F b d) (i : Nat) (s : ByteArray) (hi : i < d.kept.length) (hoff : d.off = false) (hs : s.data.toList.length = 64) (hwr : d.writes < 1000000000) :
    Calls Try.prog 19 #[.pointer (some ⟨b, 0, none⟩), .int .i64 i, .string s] w fun e w' =>
      e = .returned (.int .i64 (d.write i s.data.toList).1) ∧ Fr F w w' ∧ IsRef w' (Ext F w w') b (d.write i s.data.toList).2 := by
  have hchk : d.check (i : Int) = 0 := by
    unfold DSt.check
    rw [if_neg (by simp [hoff]), if_neg (by omega)]
  have hwf := h.wf
  have ha0 := hwf.armed0
  have ha1 := hwf.armed1
  have hc0 := hwf.cw
  have HW : Hid (d.write i s.data.toList = if d.armed = 0 then (0, d.put i s.data.toList) else if 0 < d.armed - 1 then (0, { d.put i s.data.toList with armed := d.armed - 1 }) else (5, ({ d.put i s.data.toList with armed := d.armed - 1 } : DSt).crash d.bits)) := by
    show d.write i s.data.toList = _
    unfold DSt.write
    rw [if_neg (by simp [hchk]), if_neg (by simpa using hs), Int.toNat_natCast]
  have hs64 : s.size = 64 := by rw [← hs, Array.length_toList]; rfl
  have HWF := Lib.hid hwf
  have HS := Lib.hid hs
  clear hchk hs hwf
  obtain ⟨kb, kcap, sp, cv, hd⟩ := h
  obtain ⟨c0, c1, c2, c3, c4, c5⟩ := hd.cells
  rw [hoff] at c2
  clear hoff
  have hblt : b < w.heap.size := block_lt hd.blk
  have HD := Lib.hid hd
  clear hd
  obtain ⟨t, rfl⟩ : ∃ t : List UInt8, s = ⟨t.toArray⟩ := ⟨s.data.toList, by simp⟩
  have HS : Hid (t.length = 64) := HS
  have HW : Hid (d.write i t = if d.armed = 0 then (0, d.put i t) else if 0 < d.armed - 1 then (0, { d.put i t with armed := d.armed - 1 }) else (5, ({ d.put i t with armed := d.armed - 1 } : DSt).crash d.bits)) := HW
  show Calls _ _ _ _ fun e w' => e = .returned (.int .i64 (d.write i t).1) ∧ Fr F w w' ∧ IsRef w' (Ext F w w') b (d.write i t).2
  go_enter Try.func19, Try.ntmps19
  have hcl9 : d.cache.length ≤ 1000000000 := by omega
  by_cases h0 : d.armed = 0
  · have HA := Lib.hid h0
    clear h0
    go_wp2_with (first | ((with_reducible refine wpList_one_rwrite rfl _ rfl (i, t) ?_ ?_); (· rfl)) | ((with_reducible refine wpList_append_rwrite rfl _ _ rfl cv d.cache.length (cacheS d.cache) (i, t) ?_ HD.out.cache ?_ hcl9 ?_); (· rfl); (· rfl); intro cv' w1 hown1 hg1 hat; obtain ⟨A', cap', rfl, x1, x3, x4, x5, y1, y3, y5, HH⟩ := HD.out.put_facts hi HS.out hown1 hg1 hat; clear c0 c1 c2 c3 c4 c5 hown1 hg1 hat; rw [HA.out] at x3))
    go_ret
    obtain ⟨hfr2, hput⟩ := HH.out
    rw [HW.out, if_pos HA.out]
    have hs1 := hfr2.size
    refine ⟨rfl, hfr2, kb, kcap, sp, _, hput.grow (Ext.mono (by simp)) (fun k hk => ?_)⟩
    rcases hk with hk | hk
    · exact Nat.lt_of_lt_of_le (HD.out.bd k hk) hs1
    · exact hk.2
  · have h0' : (d.armed == 0) = false := by simpa using h0
    have hpos : 0 < d.armed := by omega
    have H0 := Lib.hid h0
    clear h0
    by_cases h1 : 0 < d.armed - 1
    · have H1 := Lib.hid h1
      have h1' : (d.armed - 1 == 0) = false := by simp; omega
      clear h1
      go_wp2_with (first | ((with_reducible refine wpList_one_rwrite rfl _ rfl (i, t) ?_ ?_); (· rfl)) | ((with_reducible refine wpList_append_rwrite rfl _ _ rfl cv d.cache.length (cacheS d.cache) (i, t) ?_ HD.out.cache ?_ hcl9 ?_); (· rfl); (· rfl); intro cv' w1 hown1 hg1 hat; obtain ⟨A', cap', rfl, x1, x3, x4, x5, y1, y3, y5, HH⟩ := HD.out.put_facts hi HS.out hown1 hg1 hat; clear c0 c1 c2 c3 c4 c5 hown1 hg1 hat))
      go_ret
      obtain ⟨hfr2, hp⟩ := HH.out
      rw [HW.out, if_neg H0.out, if_pos H1.out]
      have hs1 := hfr2.size
      have hfields : RMem (((w1.setCell ⟨b, 1, none⟩ (.slice A' (d.cache.length + 1) cap')).setCell ⟨b, 5, none⟩ (.int .i64 (d.writes + 1))).setCell ⟨b, 3, none⟩ (.int .i64 (d.armed - 1))) (Ext F w w1) b kb kcap sp (.slice A' (d.cache.length + 1) cap') { d.put i t with armed := d.armed - 1 } := by
        refine hp.fields (heap_setCell_six (i := 3) _ hp.blk) (fun k hk hne => heap_setCell_other _ _ _ _ hne) (by simp) rfl rfl ?_
        exact ⟨hp.wf.pos, hp.wf.most, hp.wf.all, hp.wf.fits, by show 0 ≤ d.armed - 1; omega, by show d.armed - 1 ≤ _; omega, hp.wf.bits0, hp.wf.bits1, hp.wf.cw⟩
      have hfr3 := hfr2.setCell (p := ⟨b, 3, none⟩) (.inl HD.out.fb) (.int .i64 (d.armed - 1))
      refine ⟨rfl, hfr3, kb, kcap, sp, _, hfields.grow (Ext.mono (by simp)) (fun k hk => ?_)⟩
      rcases hk with hk | hk
      · exact Nat.lt_of_lt_of_le (HD.out.bd k hk) hfr3.size
      · exact hk.2
    · have H1 := Lib.hid h1
      have ha1' : d.armed = 1 := by omega
      have HA := Lib.hid ha1'
      have hb0 := HWF.out.bits0
      have hb1 := HWF.out.bits1
      clear h1 ha1' hpos h0'
      go_wp2_with (first | ((with_reducible refine wpList_one_rwrite rfl _ rfl (i, t) ?_ ?_); (· rfl)) | ((with_reducible refine wpList_append_rwrite rfl _ _ rfl cv d.cache.length (cacheS d.cache) (i, t) ?_ HD.out.cache ?_ hcl9 ?_); (· rfl); (· rfl); intro cv' w1 hown1 hg1 hat; obtain ⟨A', cap', rfl, x1, x3, x4, x5, y1, y3, y5, HH⟩ := HD.out.put_facts hi HS.out hown1 hg1 hat; clear c0 c1 c2 c3 c4 c5 hown1 hg1 hat; rw [HA.out] at x3))
      obtain ⟨hfr2, hp⟩ := HH.out
      have hfields : RMem (((w1.setCell ⟨b, 1, none⟩ (.slice A' (d.cache.length + 1) cap')).setCell ⟨b, 5, none⟩ (.int .i64 (d.writes + 1))).setCell ⟨b, 3, none⟩ (.int .i64 0)) (Ext F w w1) b kb kcap sp (.slice A' (d.cache.length + 1) cap') { d.put i t with armed := 0 } := by
        refine hp.fields (heap_setCell_six (i := 3) _ hp.blk) (fun k hk hne => heap_setCell_other _ _ _ _ hne) (by simp) rfl rfl ?_
        exact ⟨hp.wf.pos, hp.wf.most, hp.wf.all, hp.wf.fits, by show (0 : Int) ≤ 0; omega, by show (0 : Int) ≤ _; omega, hp.wf.bits0, hp.wf.bits1, hp.wf.cw⟩
      have hfr3 := hfr2.setCell (p := ⟨b, 3, none⟩) (.inl HD.out.fb) (.int .i64 0)
      refine (ref_crash ⟨kb, kcap, sp, _, hfields⟩ d.bits hb0 hb1).mono ?_
      rintro e w' ⟨rfl, hfr4, hdisk4⟩
      have HR := Lib.hid (And.intro hfr3 (And.intro hfr4 hdisk4))
      clear hfields hfr2 hp hfr3 hfr4 hdisk4
      go_wp2_with fail
      go_ret
      obtain ⟨hfr3, hfr4, hdisk4⟩ := HR.out
      rw [HW.out, if_neg H0.out, if_neg (by have := H1.out; omega), HA.out]
      have hsz3 : w1.heap.size ≤ (((w1.setCell ⟨b, 1, none⟩ (.slice A' (d.cache.length + 1) cap')).setCell ⟨b, 5, none⟩ (.int .i64 (d.writes + 1))).setCell ⟨b, 3, none⟩ (.int .i64 0)).heap.size := by simp
      have hfr5 := hfr3.trans (hfr4.mono (Ext.mono hsz3))
      have hs4 := hfr4.size
      refine ⟨rfl, hfr5, hdisk4.grow (fun k hk => ?_) (fun k hk => ?_)⟩
      · rcases hk with (hk | ⟨hk, hk'⟩) | ⟨hk, hk'⟩
        · exact .inl hk
        · exact .inr ⟨hk, by omega⟩
        · exact .inr ⟨by have := hfr3.size; omega, hk'⟩
      · rcases hk with hk | hk
        · exact Nat.lt_of_lt_of_le (HD.out.bd k hk) hfr5.size
        · exact hk.2
theorem ref_write_bad {w : World} {F : Nat → Prop} {b : Nat} {d : DSt} (h : IsRef w F b d) (at_ : Int) (s : ByteArray) (hc : d.check at_ ≠ 0) :
    Calls Try.prog 19 #[.pointer (some ⟨b, 0, none⟩), .int .i64 at_, .string s] w fun e w' => e = .returned (.int .i64 (d.check at_)) ∧ w = w' := by
  obtain ⟨kb, kcap, sp, cv, hd⟩ := h
  obtain ⟨c0, -, c2, -⟩ := hd.cells
  rcases hoff : d.off with _ | _
  · rw [hoff] at c2
    have hout : at_ < 0 ∨ (d.kept.length : Int) ≤ at_ := by
      by_cases h : at_ < 0 ∨ (d.kept.length : Int) ≤ at_
      · exact h
      · exact absurd (by simp [DSt.check, hoff, h]) hc
    have he : d.check at_ = 2 := by simp [DSt.check, hoff, hout]
    rw [he]
    clear hd hc he hoff
    by_cases h0 : at_ < 0
    · clear hout
      go_enter Try.func19, Try.ntmps19
      go_wp2
      go_ret
      exact ⟨rfl, rfl⟩
    · have h1 : (d.kept.length : Int) ≤ at_ := by omega
      clear hout
      go_enter Try.func19, Try.ntmps19
      go_wp2
      go_ret
      exact ⟨rfl, rfl⟩
  · have he : d.check at_ = 5 := by simp [DSt.check, hoff]
    rw [he]
    rw [hoff] at c2
    clear hd hc he hoff
    go_enter Try.func19, Try.ntmps19
    go_wp2
    go_ret
    exact ⟨rfl, rfl⟩
theorem ref_write_short {w : World} {F : Nat → Prop} {b : Nat} {d : DSt} (h : IsRef w F b d) (at_ : Int) (s : ByteArray) (hc : d.check at_ = 0) (hs : s.data.toList.length ≠ 64) :
    Calls Try.prog 19 #[.pointer (some ⟨b, 0, none⟩), .int .i64 at_, .string s] w fun e w' => e = .returned (.int .i64 1) ∧ w = w' := by
  obtain ⟨kb, kcap, sp, cv, hd⟩ := h
  obtain ⟨c0, -, c2, -⟩ := hd.cells
  obtain ⟨hoff, h1, h2⟩ := DSt.check_zero hc
  rw [hoff] at c2
  have hne : ((s.size : Int) != 64) = true := by
    have : s.size ≠ 64 := by rw [ba_size]; exact hs
    simp; omega
  clear hd hc hoff hs
  obtain ⟨i, rfl⟩ := Int.eq_ofNat_of_zero_le h1
  have hi : i < d.kept.length := by omega
  clear h1 h2
  go_enter Try.func19, Try.ntmps19
  go_wp2
  go_ret
  exact ⟨rfl, rfl⟩
/-- Write, whatever the place and the text. -/
theorem ref_write {w : World} {F : Nat → Prop} {b : Nat} {d : DSt} (h : IsRef w F b d) (at_ : Int) (s : ByteArray) (hwr : d.writes < 1000000000) :
    Calls Try.prog 19 #[.pointer (some ⟨b, 0, none⟩), .int .i64 at_, .string s] w fun e w' =>
      e = .returned (.int .i64 (d.write at_ s.data.toList).1) ∧ Fr F w w' ∧ IsRef w' (Ext F w w') b (d.write at_ s.data.toList).2 := by
  have hsame : ∀ {e : Ending} {w' : World} {c : Int}, e = .returned (.int .i64 c) ∧ w = w' → e = .returned (.int .i64 c) ∧ Fr F w w' ∧ IsRef w' (Ext F w w') b d := by
    rintro e w' c ⟨h1, rfl⟩
    exact ⟨h1, Fr.refl _ _, h.grow (fun k hk => .inl hk) (fun k hk => by rcases hk with hk | hk; exact h.bd k hk; exact hk.2)⟩
  by_cases hc : d.check at_ = 0
  · by_cases hs : s.data.toList.length = 64
    · obtain ⟨h1, h2, h3⟩ := DSt.check_zero hc
      obtain ⟨i, rfl⟩ := Int.eq_ofNat_of_zero_le h2
      exact ref_write_good h i s (by omega) h1 hs hwr
    · have he : d.write at_ s.data.toList = (1, d) := by simp only [DSt.write]; rw [if_neg (by simp [hc]), if_pos hs]
      rw [he]
      exact (ref_write_short h at_ s hc hs).mono fun e w' hh => hsame hh
  · have he : d.write at_ s.data.toList = (d.check at_, d) := by simp only [DSt.write]; rw [if_pos hc]
    rw [he]
    exact (ref_write_bad h at_ s hc).mono fun e w' hh => hsame hh
end Go.Proofs.Ytbdhicjebeoakaa
