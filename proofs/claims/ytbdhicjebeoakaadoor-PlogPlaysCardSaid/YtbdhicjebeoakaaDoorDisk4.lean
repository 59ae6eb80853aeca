/- disk.Flush: what is cached is kept. -/
import Derived.Test.YtbdhicjebeoakaaDoorDisk3
set_option linter.unusedVariables false
set_option linter.unusedSimpArgs false
set_option maxRecDepth 8000

namespace Go.Proofs.YtbdhicjebeoakaaDoor
open Go.RowKit

section
variable {ops : Array Oper} {rest : List Oper} {o : Oper} {a : Act} {w : World} {Q : Exit → Act → World → Prop}
theorem wpStill_load_part {R : Act → Prop} (hgd : o.guard = none) (x : Operand) (ho : o.op = .load 105 x) (g : Nat) (hx : a.eval x = .pointer (some ⟨g, 1, none⟩)) (p : Nat × List UInt8) (hp : p.2.length = 64) (hg : w.heap[g]? = some (.cells (wrV p).toArray 107 (0, 0)))
    (h : wpStill Tryd.prog ops w R rest (a.put o.dst (.agg (bv p.2).toArray))) : wpStill Tryd.prog ops w R (o :: rest) a :=
  wpStill_load_at hgd 105 x ho g 1 hx 107 _ (0, 0) _ (bv p.2) hg Tryd.underlying105 rfl (by rw [bv_length, hp]; exact size_sector)
    (fun j v hv => by simp only [wrV]; rw [List.getElem?_toArray, Nat.add_comm 1 j, List.getElem?_cons_succ]; exact hv) h
/-- A sector stored over one of the kept ones. -/
theorem wpList_keep_sector (hgd : o.guard = none) (x y : Operand) (ho : o.op = .store 105 x y) (kb i : Nat) (l : List (List UInt8)) (hl : All64 l) (hi : i < l.length) (s : List UInt8) (hs : s.length = 64)
    (hx : a.eval x = .pointer (some ⟨kb, i * 64, none⟩)) (hy : a.eval y = .agg (bv s).toArray) (hg : w.heap[kb]? = some (.cells (keptV l).toArray 105 (0, 0)))
    (h : wpList Tryd.prog ops Q rest (a.put o.dst undef) (w.setRow kb (keptV (l.set i s)).toArray)) : wpList Tryd.prog ops Q (o :: rest) a w := by
  have hlen : (keptV l).length = l.length * 64 := rowV_length l (bv_length64 hl)
  refine wpList_store_at hgd 105 x y ho kb (i * 64) (bv s).toArray hx hy 105 (keptV l).toArray hg (by rw [List.size_toArray, bv_length, hs]; exact size_sector)
    (by rw [List.size_toArray, List.size_toArray, hlen, bv_length, hs]; omega) (fun v hv => bv_one s v (by simpa using hv)) ?_
  have e := rowV_set (enc := bv) l (bv_length64 hl) i hi s (by rw [bv_length, hs])
  have e2 : ((keptV l).toArray.toList.take (i * 64) ++ (bv s).toArray.toList ++ (keptV l).toArray.toList.drop (i * 64 + (bv s).toArray.size)).toArray = (keptV (l.set i s)).toArray := by
    simp only [List.size_toArray, bv_length, hs]
    rw [← keptV, ← keptV] at e
    rw [e]
  rw [e2]
  exact h
end

theorem flush_nil (w : World) : Calls Tryd.prog 77 #[.pointer none] w fun e w' => e = .returned (.int .i64 8) ∧ w = w' := by
  go_enter Tryd.func77, Tryd.ntmps77
  go_wp2_with (go_at_call 83; refine (check_nil _ _).mono ?_; rintro e w' ⟨rfl, rfl⟩)
  go_ret
  exact ⟨rfl, rfl⟩
theorem flush_off {w : World} {F : Nat → Prop} {b : Nat} {d : DSt} (h : IsDisk w F b d) (hoff : d.off = true) :
    Calls Tryd.prog 77 #[.pointer (some ⟨b, 0, none⟩)] w fun e w' => e = .returned (.int .i64 5) ∧ w = w' := by
  have hL := Lib.hid (check_any h 0)
  rw [show d.check 0 = 5 by simp [DSt.check, hoff]] at hL
  clear h hoff
  go_enter Tryd.func77, Tryd.ntmps77
  go_wp2_with (go_at_call 83; refine hL.out.mono ?_; rintro e w' ⟨rfl, rfl⟩)
  go_ret
  exact ⟨rfl, rfl⟩

set_option maxHeartbeats 1000000 in
theorem flush_on {w : World} {F : Nat → Prop} {b : Nat} {d : DSt} (h : IsDisk w F b d) (hoff : d.off = false) :
    Calls Tryd.prog 77 #[.pointer (some ⟨b, 0, none⟩)] w fun e w' => e = .returned (.int .i64 0) ∧ Fr F w w' ∧ IsDisk w' (Ext F w w') b d.flush.2 := by
  have hL := Lib.hid (check_any h 0)
  have hpos := h.wf.pos
  rw [show d.check 0 = 0 by simp [DSt.check, hoff]; intro h0; rw [h0] at hpos; simp at hpos] at hL
  have HF : Hid (d.flush.2 = { d with kept := keep d.cache d.kept, cache := [] }) := by show d.flush.2 = _; simp [DSt.flush, hoff]
  have HOFF := Lib.hid hoff
  clear hoff hpos
  obtain ⟨kb, cv, hd⟩ := h
  obtain ⟨c0, c1, -⟩ := hd.cells
  obtain ⟨A, cap, rfl, hcl, hrow⟩ := own_form hd.cache
  have hblt : b < w.heap.size := block_lt hd.blk
  have hklt : kb < w.heap.size := block_lt hd.kept
  have HD := Lib.hid hd
  have HROW := Lib.hid hrow
  have hbk : b ≠ kb := Ne.symm hd.kb_ne
  clear hd hrow
  go_enter Tryd.func77, Tryd.ntmps77
  go_wp2_with (go_at_call 83; refine hL.out.mono ?_; rintro e w' ⟨rfl, rfl⟩)
  go_loopw [16] (fun u wr => ∃ k : Nat, k ≤ d.cache.length ∧ u = .int .i64 k ∧ wr.heap[kb]? = some (.cells (keptV (keep (d.cache.take k) d.kept)).toArray 105 (0, 0)) ∧ Fr (fun x => x = kb) w wr) (fun u _ => d.cache.length - (intOf u).toNat)
  case atStart => exact ⟨0, Nat.zero_le _, rfl, by rw [HD.out.kept]; rfl, Fr.refl _ _⟩
  case round =>
    obtain ⟨k, hk, rfl, hs, hb⟩ := hrel
    have HB := Lib.hid hb
    have hsz : w.heap.size ≤ wr.heap.size := hb.size
    have hbw : wr.heap[b]? = w.heap[b]? := hb.block b hblt hbk
    have c0r : wr.cell? ⟨b, 0, none⟩ = some (.slice (some ⟨kb, 0, none⟩) d.kept.length d.kept.length) := (World.cell?_of_block hbw).trans c0
    have c1r : wr.cell? ⟨b, 1, none⟩ = some (.slice A d.cache.length cap) := (World.cell?_of_block hbw).trans c1
    have f1r : wr.frozen? ⟨b, 1, none⟩ = false := (World.frozen?_of_block hbw).trans (block_free HD.out.blk 1)
    clear hb hbw
    have HS := Lib.hid hs
    clear hs
    by_cases hlt : k < d.cache.length
    · obtain ⟨g, cur, rfl, hgo, hg0, hcur⟩ := HROW.out (by omega)
      have hgk : g ≠ kb := block_ne hg0 HD.out.kept (by decide)
      have hg : wr.heap[g]? = some (.cells cur 107 (0, 0)) := (HB.out.block g (block_lt hg0) hgk).trans hg0
      have HCUR := Lib.hid hcur
      clear hg0 hcur hgo
      obtain ⟨a, s, hp⟩ : ∃ a s, d.cache[k] = (a, s) := ⟨_, _, rfl⟩
      have hfit := HD.out.wf.fits _ (List.getElem_mem hlt)
      rw [hp] at hfit
      have hps : s.length = 64 := hfit.2
      have ha : a < d.kept.length := hfit.1
      have hw0 : (wrV (a, s))[0]? = some (.int .i64 a) := rfl
      have HP := Lib.hid hp
      have HPS := Lib.hid hps
      have HSTEP : Hid (keep (d.cache.take (k + 1)) d.kept = (keep (d.cache.take k) d.kept).set a s) := by
        show keep (d.cache.take (k + 1)) d.kept = _
        rw [List.take_succ_eq_append_getElem hlt, hp, keep_snoc]
      have HALL := Lib.hid (keep_all (d.cache.take k) d.kept (HD.out.wf.fits.take k) HD.out.wf.all)
      have HLENK := Lib.hid (keep_length (d.cache.take k) d.kept)
      clear hp hps hfit
      go_wp2_with (first | ((with_reducible refine wpList_load_write rfl _ rfl g k ?_ cur hg d.kept.length d.cache HD.out.wf.fits HCUR.out hlt (a, s) HP.out ?_); (· rfl)) | (with_reducible refine wpList_new_write rfl rfl ?_) | ((with_reducible refine wpList_put_write rfl _ _ rfl (a, s) HPS.out ?_ ?_ ?_); (· rfl); (· rfl)))
      refine wp_still_tail 9 (by kernel_rfl) (by kernel_rfl) ?_
      simp only [List.take_succ_cons, List.take_zero, List.drop_succ_cons, List.drop_zero]
      have hbr : b < wr.heap.size := by omega
      iterate 7 still_step
      refine wpStill_load_part rfl _ rfl wr.heap.size rfl (a, s) HPS.out (heap_alloc_new _ _) ?_
      still_step
      refine wpStill_nil ?_
      refine wpList_keep_sector rfl _ _ rfl kb a _ HALL.out (by rw [HLENK.out]; exact ha) s HPS.out rfl rfl ((Below.heap_alloc _ _ _ (by omega)).trans HS.out) ?_
      go_wp2
      go_roundw
      case rel =>
        refine ⟨k + 1, by omega, by go_num, ?_, ?_⟩
        · rw [HSTEP.out]
          exact setRow_heap _ _ _ _ _ _ ((Below.heap_alloc _ _ _ (by omega)).trans HS.out)
        · exact ((HB.out.alloc _).drew.setRow (.inl rfl) _)
      case measure => simp [intOf]; omega
    · obtain rfl : k = d.cache.length := by omega
      go_wp2
      go_ret
      have hs := HS.out
      rw [List.take_length] at hs
      have hd := HD.out
      have hfr : Fr F w (wr.setCell ⟨b, 1, none⟩ (.slice none 0 0)) := (HB.out.mono (fun x hx => by rw [hx]; exact hd.fk)).setCell (.inl hd.fb) _
      have hwf : d.flush.2.Wf := DSt.flush_wf hd.wf
      rw [HF.out] at hwf ⊢
      refine ⟨rfl, hfr, kb, .slice none 0 0, ?_⟩
      exact {
        blk := by
          have := heap_setCell_six (i := 1) (.slice none 0 0) ((HB.out.block b hblt hbk).trans hd.blk)
          rw [this]
          simp [diskCells, keep_length]
        kept := by rw [heap_setCell_other _ _ _ _ (Ne.symm hbk)]; exact hs
        cache := World.ownsRow_nil _ _ _ _
        wf := hwf
        fb := .inl hd.fb
        fk := .inl hd.fk
        fc := fun k hk => by simp [Value.ownBlock] at hk
        bd := fun k hk => by
          rcases hk with hk | hk
          · exact Nat.lt_of_lt_of_le (hd.bd k hk) hfr.size
          · exact hk.2 }

/-- disk.Flush, in whatever state. -/
theorem flush_any {w : World} {F : Nat → Prop} {b : Nat} {d : DSt} (h : IsDisk w F b d) :
    Calls Tryd.prog 77 #[.pointer (some ⟨b, 0, none⟩)] w fun e w' => e = .returned (.int .i64 d.flush.1) ∧ Fr F w w' ∧ IsDisk w' (Ext F w w') b d.flush.2 := by
  rcases hoff : d.off with _ | _
  · have he : d.flush.1 = 0 := by simp [DSt.flush, hoff]
    rw [he]
    exact flush_on h hoff
  · have he : d.flush = (5, d) := by simp [DSt.flush, hoff]
    rw [he]
    refine (flush_off h hoff).mono fun e w' ⟨h1, h2⟩ => ?_
    subst h2
    exact ⟨h1, Fr.refl _ _, h.grow (fun k hk => .inl hk) (fun k hk => by rcases hk with hk | hk; exact h.bd k hk; exact hk.2)⟩
end Go.Proofs.YtbdhicjebeoakaaDoor
