/- lockageref03: Flush, Crash. -/
import Derived.Test.YtbdhicjebeoakaaRef2
set_option linter.unusedVariables false
set_option linter.unusedSimpArgs false
namespace Go.Proofs.Ytbdhicjebeoakaa
open Go.RowKit

theorem kept_store {w : World} {kb : Nat} {l : List (List UInt8)} {sp : List Value} (h : w.heap[kb]? = some (.cells (keptS l ++ sp).toArray 9 (0, 0))) (a : Nat) (ha : a < l.length) (s : List UInt8) :
    (w.setCell ⟨kb, a, none⟩ (.string ⟨s.toArray⟩)).heap[kb]? = some (.cells (keptS (l.set a s) ++ sp).toArray 9 (0, 0)) := by
  rw [heap_setCell_six _ h]
  congr 2
  rw [List.setIfInBounds_toArray, List.set_append_left _ _ (by rw [keptS_length]; exact ha)]
  exact congrArg (fun x => (x ++ sp).toArray) (keptS_set l a s)

set_option maxHeartbeats 1000000 in
theorem ref_flush_on {w : World} {F : Nat → Prop} {b : Nat} {d : DSt} (h : IsRef w F b d) (hoff : d.off = false) :
    Calls Try.prog 20 #[.pointer (some ⟨b, 0, none⟩)] w fun e w' => e = .returned (.int .i64 0) ∧ Fr F w w' ∧ IsRef w' (Ext F w w') b d.flush.2 := by
  have HF : Hid (d.flush.2 = { d with kept := keep d.cache d.kept, cache := [] }) := by show d.flush.2 = _; simp [DSt.flush, hoff]
  obtain ⟨kb, kcap, sp, cv, hd⟩ := h
  obtain ⟨c0, c1, c2, -⟩ := hd.cells
  rw [hoff] at c2
  clear hoff
  obtain ⟨A, cap, rfl, hcl, hrow⟩ := own_form hd.cache
  have hblt : b < w.heap.size := block_lt hd.blk
  have hklt : kb < w.heap.size := block_lt hd.kept
  have HD := Lib.hid hd
  have HROW := Lib.hid hrow
  have hbk : b ≠ kb := Ne.symm hd.kb_ne
  clear hd hrow
  go_enter Try.func20, Try.ntmps20
  go_wp2_with fail
  go_loopw [3] (fun u wr => ∃ k : Nat, k ≤ d.cache.length ∧ u = .int .i64 k ∧ wr.heap[kb]? = some (.cells (keptS (keep (d.cache.take k) d.kept) ++ sp).toArray 9 (0, 0)) ∧ Fr (fun x => x = kb) w wr) (fun u _ => d.cache.length - (intOf u).toNat)
  case atStart => exact ⟨0, Nat.zero_le _, rfl, by rw [HD.out.kept]; rfl, Fr.refl _ _⟩
  case round =>
    obtain ⟨k, hk, rfl, hs, hb⟩ := hrel
    have HB := Lib.hid hb
    have hsz : w.heap.size ≤ wr.heap.size := hb.size
    have hbw : wr.heap[b]? = w.heap[b]? := hb.block b hblt hbk
    have c0r : wr.cell? ⟨b, 0, none⟩ = some (.slice (some ⟨kb, 0, none⟩) d.kept.length kcap) := (World.cell?_of_block hbw).trans c0
    have c1r : wr.cell? ⟨b, 1, none⟩ = some (.slice A d.cache.length cap) := (World.cell?_of_block hbw).trans c1
    have f1r : wr.frozen? ⟨b, 1, none⟩ = false := (World.frozen?_of_block hbw).trans (block_free HD.out.blk 1)
    clear hb hbw
    have HS := Lib.hid hs
    clear hs
    by_cases hlt : k < d.cache.length
    · obtain ⟨g, cur, rfl, hgo, hg0, hcur⟩ := HROW.out (by omega)
      have hgk : g ≠ kb := block_ne hg0 HD.out.kept (by decide)
      have hg : wr.heap[g]? = some (.cells cur 72 (0, 0)) := (HB.out.block g (block_lt hg0) hgk).trans hg0
      obtain ⟨a, s, hp⟩ : ∃ a s, d.cache[k] = (a, s) := ⟨_, _, rfl⟩
      obtain ⟨q0, q1⟩ := cache_cells hg hcur hlt hp
      have hfit := HD.out.wf.fits _ (List.getElem_mem hlt)
      rw [hp] at hfit
      have ha : a < d.kept.length := hfit.1
      have HSTEP : Hid (keep (d.cache.take (k + 1)) d.kept = (keep (d.cache.take k) d.kept).set a s) := by
        show keep (d.cache.take (k + 1)) d.kept = _
        rw [List.take_succ_eq_append_getElem hlt, hp, keep_snoc]
      have HLENK := Lib.hid (keep_length (d.cache.take k) d.kept)
      have k0 : wr.cell? ⟨kb, a, none⟩ = some (.string ⟨((keep (d.cache.take k) d.kept).getD a []).toArray⟩) := kept_cell HS.out (by rw [HLENK.out]; exact ha)
      have kf : wr.frozen? ⟨kb, a, none⟩ = false := block_free HS.out a
      generalize (keep (d.cache.take k) d.kept).getD a [] = old at k0
      clear hp hfit hg hcur hg0 hgo
      go_wp2_with fail
      refine wp_still_tail 20 (by kernel_rfl) (by kernel_rfl) ?_
      simp only [List.take_succ_cons, List.take_zero, List.drop_succ_cons, List.drop_zero]
      iterate 20 still_step
      refine wpStill_nil ?_
      go_wp2
      go_roundw
      case rel =>
        refine ⟨k + 1, by omega, by go_num, ?_, ?_⟩
        · rw [HSTEP.out]
          exact kept_store (w := wr.drew) HS.out a (by rw [HLENK.out]; exact ha) s
        · exact (HB.out.drew.setCell (.inl rfl) _)
      case measure => simp [intOf]; omega
    · obtain rfl : k = d.cache.length := by omega
      go_wp2
      go_ret
      have hs := HS.out
      rw [List.take_length] at hs
      have hd := HD.out
      have hfr : Fr F w (wr.setCell ⟨b, 1, none⟩ (.slice none 0 0)) := (HB.out.mono (fun x hx => by rw [hx]; exact hd.fk)).setCell (.inl hd.fb) _
      have hwf : d.flush.2.Wf := DSt.flush_wf hd.wf
      rw [HF.out] at hwf ⊢
      refine ⟨rfl, hfr, kb, kcap, sp, .slice none 0 0, ?_⟩
      exact {
        blk := by
          have := heap_setCell_six (i := 1) (.slice none 0 0) ((HB.out.block b hblt hbk).trans hd.blk)
          rw [this]
          simp [refCells, keep_length]
        kept := by rw [heap_setCell_other _ _ _ _ (Ne.symm hbk)]; exact hs
        cache := World.ownsRow_nil _ _ _ _
        wf := hwf
        fb := .inl hd.fb
        fk := .inl hd.fk
        fc := fun k hk => by simp [Value.ownBlock] at hk
        bd := fun k hk => by
          rcases hk with hk | hk
          · exact Nat.lt_of_lt_of_le (hd.bd k hk) hfr.size
          · exact hk.2 }
theorem ref_flush {w : World} {F : Nat → Prop} {b : Nat} {d : DSt} (h : IsRef w F b d) :
    Calls Try.prog 20 #[.pointer (some ⟨b, 0, none⟩)] w fun e w' => e = .returned (.int .i64 d.flush.1) ∧ Fr F w w' ∧ IsRef w' (Ext F w w') b d.flush.2 := by
  rcases hoff : d.off with _ | _
  · have he : d.flush.1 = 0 := by simp [DSt.flush, hoff]
    rw [he]
    exact ref_flush_on h hoff
  · have he : d.flush = (5, d) := by simp [DSt.flush, hoff]
    rw [he]
    have H := Lib.hid h
    obtain ⟨kb, kcap, sp, cv, hd⟩ := h
    obtain ⟨-, -, c2, -⟩ := hd.cells
    rw [hoff] at c2
    clear hd he hoff
    go_enter Try.func20, Try.ntmps20
    go_wp2
    go_ret
    exact ⟨rfl, Fr.refl _ _, H.out.grow (fun k hk => .inl hk) (fun k hk => by rcases hk with hk | hk; exact H.out.bd k hk; exact hk.2)⟩
end Go.Proofs.Ytbdhicjebeoakaa
