/- disk.Crash: of what was not flushed as much is kept as Fate tells. -/
import Derived.Test.YtbdhicjebeoakaaDoorDisk4
set_option linter.unusedVariables false
set_option linter.unusedSimpArgs false
set_option maxRecDepth 8000
namespace Go.Proofs.YtbdhicjebeoakaaDoor
open Go.RowKit

theorem crash_nil (bits : Int) (w : World) : Calls Tryd.prog 31 #[.pointer none, .int .u64 bits] w fun e w' => e = .returned (.tuple #[]) ∧ w = w' := by
  go_enter Tryd.func31, Tryd.ntmps31
  go_wp2
  refine bodyPost_ret (results_none rfl _ _ _) rfl ?_
  exact ⟨rfl, rfl⟩
theorem crash_off {w : World} {F : Nat → Prop} {b : Nat} {d : DSt} (h : IsDisk w F b d) (hoff : d.off = true) (bits : Int) :
    Calls Tryd.prog 31 #[.pointer (some ⟨b, 0, none⟩), .int .u64 bits] w fun e w' => e = .returned (.tuple #[]) ∧ w = w' := by
  obtain ⟨kb, cv, h⟩ := h
  obtain ⟨-, -, c2, -⟩ := h.cells
  rw [hoff] at c2
  clear h hoff
  go_enter Tryd.func31, Tryd.ntmps31
  go_wp2
  refine bodyPost_ret (results_none rfl _ _ _) rfl ?_
  exact ⟨rfl, rfl⟩

/-- A beginning of a sector laid over one of the kept ones. -/
theorem keptV_mix (l : List (List UInt8)) (hl : All64 l) (i : Nat) (hi : i < l.length) (s : List UInt8) (hs : s.length = 64) (f : Nat) (hf : f ≤ 64) :
    (keptV l).take (i * 64) ++ (bv (s.take f) ++ (keptV l).drop (i * 64 + f)) = keptV (l.set i (mix f s (l.getD i []))) := by
  have hg : l.getD i [] = l[i] := by rw [List.getD_eq_getElem?_getD, List.getElem?_eq_getElem hi]; rfl
  have hli : (l[i]).length = 64 := hl _ (List.getElem_mem hi)
  have hm := mix_length f s l[i] hs hli hf
  have e := rowV_set (enc := bv) l (bv_length64 hl) i hi (mix f s l[i]) (by rw [bv_length, hm])
  rw [← keptV, ← keptV] at e
  rw [hg, ← e]
  have e1 : bv (mix f s l[i]) = bv (s.take f) ++ (bv l[i]).drop f := by rw [mix, bv_append, bv_drop]
  have e2 : (keptV l).drop (i * 64 + f) = (bv l[i]).drop f ++ (keptV l).drop (i * 64 + 64) := by
    have h1 : (keptV l).drop (i * 64) = bv l[i] ++ keptV (l.drop (i + 1)) := by
      have h3 := rowV_drop (enc := bv) l (bv_length64 hl) i (by omega)
      rw [List.drop_eq_getElem_cons hi] at h3
      exact h3
    have h2 : (keptV l).drop (i * 64 + 64) = keptV (l.drop (i + 1)) := by
      have h3 := rowV_drop (enc := bv) l (bv_length64 hl) (i + 1) (by omega)
      rw [Nat.add_mul, Nat.one_mul] at h3
      exact h3
    rw [h2, ← List.drop_drop, h1, List.drop_append, show f - (bv l[i]).length = 0 by rw [bv_length, hli]; omega, List.drop_zero]
  rw [e1, e2]
  simp only [List.append_assoc]

set_option maxHeartbeats 1000000 in
theorem crash_on {w : World} {F : Nat → Prop} {b : Nat} {d : DSt} (h : IsDisk w F b d) (hoff : d.off = false) (bits : Int) (hb0 : 0 ≤ bits) (hb1 : bits ≤ 18446744073709551615) :
    Calls Tryd.prog 31 #[.pointer (some ⟨b, 0, none⟩), .int .u64 bits] w fun e w' => e = .returned (.tuple #[]) ∧ Fr F w w' ∧ IsDisk w' (Ext F w w') b (d.crash bits) := by
  have HF : Hid (d.crash bits = { d with kept := land bits 0 d.cache d.kept, cache := [], off := true }) := by show d.crash bits = _; simp [DSt.crash, hoff]
  obtain ⟨kb, cv, hd⟩ := h
  obtain ⟨c0, c1, c2, -⟩ := hd.cells
  rw [hoff] at c2
  clear hoff
  obtain ⟨A, cap, rfl, hcl, hrow⟩ := own_form hd.cache
  have hblt : b < w.heap.size := block_lt hd.blk
  have hklt : kb < w.heap.size := block_lt hd.kept
  have HD := Lib.hid hd
  have HROW := Lib.hid hrow
  have hbk : b ≠ kb := Ne.symm hd.kb_ne
  clear hd hrow
  go_enter Tryd.func31, Tryd.ntmps31
  go_wp2_with fail
  go_loopw [19] (fun u wr => ∃ k : Nat, k ≤ d.cache.length ∧ u = .int .i64 k ∧ wr.heap[kb]? = some (.cells (keptV (land bits 0 (d.cache.take k) d.kept)).toArray 105 (0, 0)) ∧ Fr (fun x => x = kb) w wr) (fun u _ => d.cache.length - (intOf u).toNat)
  case atStart => exact ⟨0, Nat.zero_le _, rfl, by rw [HD.out.kept]; rfl, Fr.refl _ _⟩
  case round =>
    obtain ⟨k, hk, rfl, hs, hb⟩ := hrel
    have HB := Lib.hid hb
    have hsz : w.heap.size ≤ wr.heap.size := hb.size
    have hbw : wr.heap[b]? = w.heap[b]? := hb.block b hblt hbk
    have c0r : wr.cell? ⟨b, 0, none⟩ = some (.slice (some ⟨kb, 0, none⟩) d.kept.length d.kept.length) := (World.cell?_of_block hbw).trans c0
    have c1r : wr.cell? ⟨b, 1, none⟩ = some (.slice A d.cache.length cap) := (World.cell?_of_block hbw).trans c1
    have c2r : wr.cell? ⟨b, 2, none⟩ = some (.bool false) := (World.cell?_of_block hbw).trans c2
    have f1r : wr.frozen? ⟨b, 1, none⟩ = false := (World.frozen?_of_block hbw).trans (block_free HD.out.blk 1)
    have f2r : wr.frozen? ⟨b, 2, none⟩ = false := (World.frozen?_of_block hbw).trans (block_free HD.out.blk 2)
    clear hb hbw
    have HS := Lib.hid hs
    clear hs
    by_cases hlt : k < d.cache.length
    · obtain ⟨g, cur, rfl, hgo, hg0, hcur⟩ := HROW.out (by omega)
      have hgk : g ≠ kb := block_ne hg0 HD.out.kept (by decide)
      have hg : wr.heap[g]? = some (.cells cur 107 (0, 0)) := (HB.out.block g (block_lt hg0) hgk).trans hg0
      have HCUR := Lib.hid hcur
      clear hg0 hcur hgo
      obtain ⟨a, s, hp⟩ : ∃ a s, d.cache[k] = (a, s) := ⟨_, _, rfl⟩
      have hfit := HD.out.wf.fits _ (List.getElem_mem hlt)
      rw [hp] at hfit
      have hps : s.length = 64 := hfit.2
      have ha : a < d.kept.length := hfit.1
      have hw0 : (wrV (a, s))[0]? = some (.int .i64 a) := rfl
      have HP := Lib.hid hp
      have HPS := Lib.hid hps
      have hlenk := land_length bits (d.cache.take k) 0 d.kept
      have hall := land_all bits (d.cache.take k) 0 d.kept (HD.out.wf.fits.take k) HD.out.wf.all
      have HSTEP : Hid (land bits 0 (d.cache.take (k + 1)) d.kept = (land bits 0 (d.cache.take k) d.kept).set a (mix (fate bits (k : Int)) s ((land bits 0 (d.cache.take k) d.kept).getD a []))) := by
        show land bits 0 (d.cache.take (k + 1)) d.kept = _
        rw [List.take_succ_eq_append_getElem hlt, hp, land_snoc, List.length_take, Nat.zero_add, Nat.min_eq_left (by omega)]
      have HFA := fun W => Lib.hid (fate_any bits (k : Int) W hb0 hb1)
      have hf1 := fate_le bits (k : Int)
      generalize hfk : fate bits (k : Int) = f at HSTEP HFA hf1
      have HMIX := Lib.hid (keptV_mix (land bits 0 (d.cache.take k) d.kept) hall a (by rw [hlenk]; exact ha) s hps f hf1)
      have HLK : Hid ((keptV (land bits 0 (d.cache.take k) d.kept)).length = d.kept.length * 64) := by
        show (keptV (land bits 0 (d.cache.take k) d.kept)).length = d.kept.length * 64
        rw [keptV, rowV_length _ (bv_length64 hall), hlenk]
      have hf2 : (f : Int) ≤ 64 := by omega
      clear hp hps hfit hlenk hall hfk
      go_wp2_with (first | ((with_reducible refine wpList_load_write rfl _ rfl g k ?_ cur hg d.kept.length d.cache HD.out.wf.fits HCUR.out hlt (a, s) HP.out ?_); (· rfl)) | (with_reducible refine wpList_new_write rfl rfl ?_) | ((with_reducible refine wpList_put_write rfl _ _ rfl (a, s) HPS.out ?_ ?_ ?_); (· rfl); (· rfl)))
      refine wp_still_tail 13 (by kernel_rfl) (by kernel_rfl) ?_
      simp only [List.take_succ_cons, List.take_zero, List.drop_succ_cons, List.drop_zero]
      have hbr : b < wr.heap.size := by omega
      iterate 9 still_step
      still_call ((HFA _).out.mono fun e w'' h => ⟨h.1, h.2.symm⟩)
      iterate 3 still_step
      refine wpStill_nil ?_
      have hcl' : (bv (s.take f)).length = f := by rw [bv_length, List.length_take, HPS.out]; omega
      refine wpList_copy_own rfl _ _ _ _ rfl 5 (by kernel_rfl) (by kernel_rfl) kb (a * 64) f 64 ⟨wr.heap.size, 1, none⟩ 64 64 rfl rfl (keptV (land bits 0 (d.cache.take k) d.kept)).toArray 105
        ((Below.heap_alloc _ _ _ (by omega)).trans HS.out) (bv (s.take f)) (by rw [hcl']; exact (Nat.min_eq_right (by omega)).symm) (fun j v hv => ?_) (by rw [List.size_toArray, HLK.out, hcl']; omega) (bv_one _) ?_
      · rw [add_at]
        show World.cell? (wr.alloc (.cells (wrV (a, s)).toArray 107)) ⟨wr.heap.size, 1 + j, none⟩ = some v
        rw [block_cell (heap_alloc_new wr _), List.getElem?_toArray, wrV, Nat.add_comm 1 j, List.getElem?_cons_succ]
        rw [bv_take, List.getElem?_take] at hv
        split at hv
        · exact hv
        · cases hv
      · rw [hcl', HMIX.out, ← HSTEP.out]
        clear hcl'
        go_wp2
        go_roundw
        case rel =>
          refine ⟨k + 1, by omega, by go_num, ?_, ?_⟩
          · exact setRow_heap _ _ _ _ _ _ ((Below.heap_alloc _ _ _ (by omega)).trans HS.out)
          · exact ((HB.out.alloc _).drew.setRow (.inl rfl) _)
        case measure => simp [intOf]; omega
    · obtain rfl : k = d.cache.length := by omega
      go_wp2
      go_end0
      have hs := HS.out
      rw [List.take_length] at hs
      have hd := HD.out
      have hfr : Fr F w ((wr.setCell ⟨b, 1, none⟩ (.slice none 0 0)).setCell ⟨b, 2, none⟩ (.bool true)) := ((HB.out.mono (fun x hx => by rw [hx]; exact hd.fk)).setCell (.inl hd.fb) _).setCell (.inl hd.fb) _
      have hwf : (d.crash bits).Wf := DSt.crash_wf hd.wf bits
      rw [HF.out] at hwf ⊢
      refine ⟨rfl, hfr, kb, .slice none 0 0, ?_⟩
      exact {
        blk := by
          have := heap_setCell_six (i := 2) (.bool true) (heap_setCell_six (i := 1) (.slice none 0 0) ((HB.out.block b hblt hbk).trans hd.blk))
          rw [this]
          simp [diskCells, land_length]
        kept := by rw [heap_setCell_other _ _ _ _ (Ne.symm hbk), heap_setCell_other _ _ _ _ (Ne.symm hbk)]; exact hs
        cache := World.ownsRow_nil _ _ _ _
        wf := hwf
        fb := .inl hd.fb
        fk := .inl hd.fk
        fc := fun k hk => by simp [Value.ownBlock] at hk
        bd := fun k hk => by
          rcases hk with hk | hk
          · exact Nat.lt_of_lt_of_le (hd.bd k hk) hfr.size
          · exact hk.2 }

/-- disk.Crash, in whatever state. -/
theorem crash_any {w : World} {F : Nat → Prop} {b : Nat} {d : DSt} (h : IsDisk w F b d) (bits : Int) (hb0 : 0 ≤ bits) (hb1 : bits ≤ 18446744073709551615) :
    Calls Tryd.prog 31 #[.pointer (some ⟨b, 0, none⟩), .int .u64 bits] w fun e w' => e = .returned (.tuple #[]) ∧ Fr F w w' ∧ IsDisk w' (Ext F w w') b (d.crash bits) := by
  rcases hoff : d.off with _ | _
  · exact crash_on h hoff bits hb0 hb1
  · have he : d.crash bits = d := by simp [DSt.crash, hoff]
    rw [he]
    refine (crash_off h hoff bits).mono fun e w' ⟨h1, h2⟩ => ?_
    subst h2
    exact ⟨h1, Fr.refl _ _, h.grow (fun k hk => .inl hk) (fun k hk => by rcases hk with hk | hk; exact h.bd k hk; exact hk.2)⟩
end Go.Proofs.YtbdhicjebeoakaaDoor
