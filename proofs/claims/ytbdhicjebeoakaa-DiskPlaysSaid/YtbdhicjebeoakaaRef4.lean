/- lockageref03: Crash. -/
import Derived.Test.YtbdhicjebeoakaaRef3
set_option linter.unusedVariables false
set_option linter.unusedSimpArgs false
namespace Go.Proofs.Ytbdhicjebeoakaa
open Go.RowKit

theorem reffate_at {bits i : Int} {c : Nat} (w : World) (hb : 0 ≤ bits) (hb2 : bits ≤ 18446744073709551615) (h : fate bits i = c) :
    Calls Try.prog 11 #[.int .u64 bits, .int .i64 i] w fun e w' => e = .returned (.int .i64 c) ∧ w = w' := by
  have := reffate_any bits i w hb hb2
  rw [h] at this
  exact this
theorem mix_text64 (n : Nat) (a b : List UInt8) (hb : b.length = 64) : (⟨a.toArray⟩ : ByteArray).extract 0 n ++ (⟨b.toArray⟩ : ByteArray).extract n 64 = ⟨(mix n a b).toArray⟩ := by
  apply ba_eq
  rw [ba_append, ba_take]
  simp [mix]
  rw [List.take_of_length_le (by rw [List.length_drop, hb]; exact Nat.le_refl _)]

set_option maxHeartbeats 2000000 in
theorem ref_crash_on {w : World} {F : Nat → Prop} {b : Nat} {d : DSt} (h : IsRef w F b d) (hoff : d.off = false) (bits : Int) (hb0 : 0 ≤ bits) (hb1 : bits ≤ 18446744073709551615) :
    Calls Try.prog 25 #[.pointer (some ⟨b, 0, none⟩), .int .u64 bits] w fun e w' => e = .returned (.tuple #[]) ∧ Fr F w w' ∧ IsRef w' (Ext F w w') b (d.crash bits) := by
  have HF : Hid (d.crash bits = { d with kept := land bits 0 d.cache d.kept, cache := [], off := true }) := by show d.crash bits = _; simp [DSt.crash, hoff]
  obtain ⟨kb, kcap, sp, cv, hd⟩ := h
  obtain ⟨c0, c1, c2, -⟩ := hd.cells
  rw [hoff] at c2
  clear hoff
  obtain ⟨A, cap, rfl, hcl, hrow⟩ := own_form hd.cache
  have hblt : b < w.heap.size := block_lt hd.blk
  have hklt : kb < w.heap.size := block_lt hd.kept
  have HD := Lib.hid hd
  have HROW := Lib.hid hrow
  have hbk : b ≠ kb := Ne.symm hd.kb_ne
  clear hd hrow
  go_enter Try.func25, Try.ntmps25
  go_wp2_with fail
  go_loopw [4] (fun u wr => ∃ k : Nat, k ≤ d.cache.length ∧ u = .int .i64 k ∧ wr.heap[kb]? = some (.cells (keptS (land bits 0 (d.cache.take k) d.kept) ++ sp).toArray 9 (0, 0)) ∧ Fr (fun x => x = kb) w wr) (fun u _ => d.cache.length - (intOf u).toNat)
  case atStart => exact ⟨0, Nat.zero_le _, rfl, by rw [HD.out.kept]; rfl, Fr.refl _ _⟩
  case round =>
    obtain ⟨k, hk, rfl, hs, hb⟩ := hrel
    have HB := Lib.hid hb
    have hsz : w.heap.size ≤ wr.heap.size := hb.size
    have hbw : wr.heap[b]? = w.heap[b]? := hb.block b hblt hbk
    have c0r : wr.cell? ⟨b, 0, none⟩ = some (.slice (some ⟨kb, 0, none⟩) d.kept.length kcap) := (World.cell?_of_block hbw).trans c0
    have c1r : wr.cell? ⟨b, 1, none⟩ = some (.slice A d.cache.length cap) := (World.cell?_of_block hbw).trans c1
    have c2r : wr.cell? ⟨b, 2, none⟩ = some (.bool false) := (World.cell?_of_block hbw).trans c2
    have f1r : wr.frozen? ⟨b, 1, none⟩ = false := (World.frozen?_of_block hbw).trans (block_free HD.out.blk 1)
    have f2r : wr.frozen? ⟨b, 2, none⟩ = false := (World.frozen?_of_block hbw).trans (block_free HD.out.blk 2)
    clear hb hbw
    have HS := Lib.hid hs
    clear hs
    by_cases hlt : k < d.cache.length
    · obtain ⟨g, cur, rfl, hgo, hg0, hcur⟩ := HROW.out (by omega)
      have hgk : g ≠ kb := block_ne hg0 HD.out.kept (by decide)
      have hg : wr.heap[g]? = some (.cells cur 72 (0, 0)) := (HB.out.block g (block_lt hg0) hgk).trans hg0
      obtain ⟨a, s, hp⟩ : ∃ a s, d.cache[k] = (a, s) := ⟨_, _, rfl⟩
      obtain ⟨q0, q1⟩ := cache_cells hg hcur hlt hp
      have hfit := HD.out.wf.fits _ (List.getElem_mem hlt)
      rw [hp] at hfit
      have hps : s.length = 64 := hfit.2
      have ha : a < d.kept.length := hfit.1
      have hlenk := land_length bits (d.cache.take k) 0 d.kept
      have hall := land_all bits (d.cache.take k) 0 d.kept (HD.out.wf.fits.take k) HD.out.wf.all
      have HSTEP : Hid (land bits 0 (d.cache.take (k + 1)) d.kept = (land bits 0 (d.cache.take k) d.kept).set a (mix (fate bits (k : Int)) s ((land bits 0 (d.cache.take k) d.kept).getD a []))) := by
        show land bits 0 (d.cache.take (k + 1)) d.kept = _
        rw [List.take_succ_eq_append_getElem hlt, hp, land_snoc, List.length_take, Nat.zero_add, Nat.min_eq_left (by omega)]
      have hf1 := fate_le bits (k : Int)
      have k0 : wr.cell? ⟨kb, a, none⟩ = some (.string ⟨((land bits 0 (d.cache.take k) d.kept).getD a []).toArray⟩) := kept_cell HS.out (by rw [hlenk]; exact ha)
      have kf : wr.frozen? ⟨kb, a, none⟩ = false := block_free HS.out a
      have hold : ((land bits 0 (d.cache.take k) d.kept).getD a []).length = 64 := hall.getD (by rw [hlenk]; exact ha)
      generalize hfk : fate bits (k : Int) = f at HSTEP hf1
      generalize (land bits 0 (d.cache.take k) d.kept).getD a [] = old at k0 hold HSTEP
      have HFK := Lib.hid hfk
      have HLENK := Lib.hid hlenk
      have hsz1 : (⟨s.toArray⟩ : ByteArray).size = 64 := by rw [ba_size]; exact hps
      have hsz2 : (⟨old.toArray⟩ : ByteArray).size = 64 := by rw [ba_size]; exact hold
      have hn1 : ((64 : Int) < (f : Int)) = False := by simp only [eq_iff_iff, iff_false]; omega
      have hn2 : ((f : Int) ≤ 64) = True := by simp only [eq_iff_iff, iff_true]; omega
      have tx := mix_text64 f s old hold
      have hgb : g < wr.heap.size := block_lt hg
      have hkb : kb < wr.heap.size := by omega
      have hbb : b < wr.heap.size := by omega
      clear hp hps hfit hlenk hall hfk hg hcur hg0 hgo hold
      go_wp2_with (go_at_call 11; refine (reffate_at _ hb0 hb1 HFK.out).mono ?_; rintro e w' ⟨rfl, rfl⟩)
      refine wp_still_tail 21 (by kernel_rfl) (by kernel_rfl) ?_
      simp only [List.take_succ_cons, List.take_zero, List.drop_succ_cons, List.drop_zero]
      iterate 21 still_step
      refine wpStill_nil ?_
      clear tx
      go_wp2
      go_roundw
      case rel =>
        refine ⟨k + 1, by omega, by go_num, ?_, ?_⟩
        · rw [HSTEP.out]
          exact (Below.heap_alloc _ _ _ (by simpa using hkb)).trans (kept_store HS.out a (by rw [HLENK.out]; exact ha) _)
        · exact (((HB.out.setCell (.inl rfl) _).alloc _).drew)
      case measure => simp [intOf]; omega
    · obtain rfl : k = d.cache.length := by omega
      go_wp2
      go_end0
      have hs := HS.out
      rw [List.take_length] at hs
      have hd := HD.out
      have hfr : Fr F w ((wr.setCell ⟨b, 1, none⟩ (.slice none 0 0)).setCell ⟨b, 2, none⟩ (.bool true)) := ((HB.out.mono (fun x hx => by rw [hx]; exact hd.fk)).setCell (.inl hd.fb) _).setCell (.inl hd.fb) _
      have hwf : (d.crash bits).Wf := DSt.crash_wf hd.wf bits
      rw [HF.out] at hwf ⊢
      refine ⟨rfl, hfr, kb, kcap, sp, .slice none 0 0, ?_⟩
      exact {
        blk := by
          have := heap_setCell_six (i := 2) (.bool true) (heap_setCell_six (i := 1) (.slice none 0 0) ((HB.out.block b hblt hbk).trans hd.blk))
          rw [this]
          simp [refCells, land_length]
        kept := by rw [heap_setCell_other _ _ _ _ (Ne.symm hbk), heap_setCell_other _ _ _ _ (Ne.symm hbk)]; exact hs
        cache := World.ownsRow_nil _ _ _ _
        wf := hwf
        fb := .inl hd.fb
        fk := .inl hd.fk
        fc := fun k hk => by simp [Value.ownBlock] at hk
        bd := fun k hk => by
          rcases hk with hk | hk
          · exact Nat.lt_of_lt_of_le (hd.bd k hk) hfr.size
          · exact hk.2 }
theorem ref_crash {w : World} {F : Nat → Prop} {b : Nat} {d : DSt} (h : IsRef w F b d) (bits : Int) (hb0 : 0 ≤ bits) (hb1 : bits ≤ 18446744073709551615) :
    Calls Try.prog 25 #[.pointer (some ⟨b, 0, none⟩), .int .u64 bits] w fun e w' => e = .returned (.tuple #[]) ∧ Fr F w w' ∧ IsRef w' (Ext F w w') b (d.crash bits) := by
  rcases hoff : d.off with _ | _
  · exact ref_crash_on h hoff bits hb0 hb1
  · have he : d.crash bits = d := by simp [DSt.crash, hoff]
    rw [he]
    have H := Lib.hid h
    obtain ⟨kb, kcap, sp, cv, hd⟩ := h
    obtain ⟨-, -, c2, -⟩ := hd.cells
    rw [hoff] at c2
    clear hd he hoff
    go_enter Try.func25, Try.ntmps25
    go_wp2
    refine bodyPost_ret (results_none rfl _ _ _) rfl ?_
    exact ⟨rfl, Fr.refl _ _, H.out.grow (fun k hk => .inl hk) (fun k hk => by rcases hk with hk | hk; exact H.out.bd k hk; exact hk.2)⟩
end Go.Proofs.Ytbdhicjebeoakaa
