/- lockageref03.New. -/
import Derived.Test.YtbdhicjebeoakaaRef1
import Derived.Test.YtbdhicjebeoakaaOwn
set_option linter.unusedVariables false
set_option linter.unusedSimpArgs false
namespace Go.Proofs.Ytbdhicjebeoakaa
open Go.RowKit

theorem noughts64 (w : World) : Calls Try.prog 32 #[.int .i64 64] w fun e w' => e = .returned (.string ⟨zeros64.toArray⟩) ∧ w.alloc (.cells (Array.replicate 64 (.int .u8 0)) 5) = w' := by
  have mk64 : ∀ W : World, (Instr.makeSlice 41 (.int .i64 64) (.int .i64 64)).run Try.prog W = .ok (.slice (some ⟨W.heap.size, 0, none⟩) 64 64) (W.alloc (.cells (Array.replicate 64 (.int .u8 0)) 5)) := make_zeros 64 (by decide)
  have cv64 : (convert 41 9 (.slice (some ⟨w.heap.size, 0, none⟩) 64 64)).run Try.prog (w.alloc (.cells (Array.replicate 64 (.int .u8 0)) 5)) = .ok (.string ⟨zeros64.toArray⟩) (w.alloc (.cells (Array.replicate 64 (.int .u8 0)) 5)) := conv_zeros 64 w
  go_enter Try.func32, Try.ntmps32
  go_wp2
  go_ret
  exact ⟨rfl, rfl⟩

theorem info_string : (Try.prog.info? 9).map (fun i => (i.zero, i.size, i.bytes)) = some (some (.string ⟨#[]⟩), 1, 16) := by kernel_rfl
section
variable {P : Program}
/-- A slice literal of one element that is one cell. -/
theorem wp_buildCell {o : Oper} {a : Act} {w : World} {K : Act → World → Prop} {Q : Exit → Act → World → Prop} (t e : TypeId) (x : Operand) (ho : o.op = .buildSlice t 1 #[(0, x)])
    (v : Value) (hv : v.cells = #[v]) (hx : a.eval x = v) (hu : P.underlying t = some (.slice e)) (hi : (P.info? e).map (fun i => (i.zero.map (fun z => z.cells.size), i.size)) = some (some 1, 1))
    (h : K (a.put o.dst (.slice (some ⟨w.heap.size, 0, none⟩) 1 1)) (w.alloc (.cells #[v] e))) : o.wp P a w K Q := by
  obtain ⟨ie, hie, hz⟩ := Option.map_eq_some_iff.1 hi
  simp only [Prod.mk.injEq] at hz
  obtain ⟨hz0, hz1⟩ := hz
  obtain ⟨z, hz2, hz3⟩ := Option.map_eq_some_iff.1 hz0
  refine wp_buildSlice t e 1 #[(0, x)] ho #[v] ie z hu hie hz2 (by omega) (by omega) ?_ h
  have e1 : (#[(0, x)].map fun (i, x) => (i, a.eval x)).toList = (([v]).zipIdx 0).map fun x => (x.2, x.1) := by
    simp [hx]
  rw [e1, hz1]
  have := Great.fill_whole (by decide : 0 < 1) [v] ((Array.range (1 * 1)).map (z.cells[· % z.cells.size]!)) (by simp [hv]) (by simp)
  rw [this]
  simp [hv]
end
theorem keptS_snoc (k : Nat) : keptS (List.replicate (k + 1) zeros64) = keptS (List.replicate k zeros64) ++ [sv zeros64] := by
  simp [keptS, List.replicate_succ']

theorem ownsRow_setCell {w : World} {base n size b i : Nat} {e : TypeId} {v u : Value} {xs : List Value} (h : w.ownsRow base e size v n xs) (hne : ∀ g, v.ownBlock = some g → g ≠ b) : (w.setCell ⟨b, i, none⟩ u).ownsRow base e size v n xs := by
  refine ⟨h.1, ?_⟩
  rcases h.2 with hn | ⟨g, cap, cur, he, hb, hg, rest⟩
  · exact .inl hn
  · have hgb : g ≠ b := hne g (by rw [he]; rfl)
    exact .inr ⟨g, cap, cur, he, hb, by rw [heap_setCell_other _ _ _ _ hgb]; exact hg, rest⟩
theorem ownsRow_base {w : World} {base n size : Nat} {e : TypeId} {v : Value} {xs : List Value} (h : w.ownsRow base e size v n xs) : w.ownsRow 0 e size v n xs := by
  refine ⟨h.1, ?_⟩
  rcases h.2 with hn | ⟨g, cap, cur, he, hb, hg, rest⟩
  · exact .inl hn
  · exact .inr ⟨g, cap, cur, he, Nat.zero_le _, hg, rest⟩
set_option maxHeartbeats 1000000 in
theorem ref_new (n : Nat) (w : World) (h1 : 1 ≤ n) (h2 : n ≤ 4096) :
    Calls Try.prog 18 #[.int .i64 n] w fun e w' => ∃ b, e = .returned (.pointer (some ⟨b, 0, none⟩)) ∧ Below w.heap.size w w' ∧ IsRef w' (fun k => w.heap.size ≤ k ∧ k < w'.heap.size) b (DSt.new n) := by
  go_enter Try.func18, Try.ntmps18
  go_wp2_with fail
  go_loopw [4] (fun u wr => ∃ (k : Nat) (kv : Value), u = .int .i64 k ∧ k ≤ n ∧ Below w.heap.size w wr ∧ w.heap.size < wr.heap.size ∧ wr.heap[w.heap.size]? = some (.cells #[kv, .slice none 0 0, .bool false, .int .i64 0, .int .u64 0, .int .i64 0] 56 (0, 0)) ∧ wr.ownsRow (w.heap.size + 1) 9 1 kv k (keptS (List.replicate k zeros64))) (fun u _ => n - (intOf u).toNat)
  case atStart => exact ⟨0, .slice none 0 0, rfl, Nat.zero_le _, (Below.refl _ _).alloc (Nat.le_refl _) _, by simp, heap_alloc_new _ _, World.ownsRow_nil _ _ _ _⟩
  case round =>
    obtain ⟨k, kv, rfl, hk, hB, hlt, hblk, hown⟩ := hrel
    have HB := Lib.hid hB
    have HOWN := Lib.hid hown
    have HBLK := Lib.hid hblk
    have hcell : wr.cell? ⟨w.heap.size, 0, none⟩ = some kv := block_cell hblk 0
    clear hB hown hblk
    by_cases hkn : k < n
    · go_wp2_with fail
      refine wp_head_tail 8 [true, true, true, true, true, false, false, false] (fun W => W.cell? ⟨w.heap.size, 0, none⟩ = some kv) (by kernel_rfl) (by kernel_rfl) (fun _ _ d _ _ h => by cases d <;> exact h) hcell ?_
      simp only [List.take_succ_cons, List.take_zero, List.drop_succ_cons, List.drop_zero]
      refine wpHead_take (.pointer (some ⟨w.heap.size, 0, none⟩)) rfl (fun W hW => by go_simp) ?_
      simp only [Act.put, List.setIfInBounds_toArray, List.set_cons_succ, List.set_cons_zero]
      refine wpHead_take (.pointer (some ⟨w.heap.size, 0, none⟩)) rfl (fun W hW => by go_simp) ?_
      simp only [Act.put, List.setIfInBounds_toArray, List.set_cons_succ, List.set_cons_zero]
      refine wpHead_take (.pointer (some ⟨w.heap.size, 0, none⟩)) rfl (fun W hW => by go_simp) ?_
      simp only [Act.put, List.setIfInBounds_toArray, List.set_cons_succ, List.set_cons_zero]
      refine wpHead_take (.pointer (some ⟨w.heap.size, 0, none⟩)) rfl (fun W hW => by go_simp) ?_
      simp only [Act.put, List.setIfInBounds_toArray, List.set_cons_succ, List.set_cons_zero]
      refine wpHead_take kv rfl (fun W hW => by go_simp) ?_
      simp only [Act.put, List.setIfInBounds_toArray, List.set_cons_succ, List.set_cons_zero]
      refine wpHead_force rfl (fun K hK => ?_)
      go_simp
      refine (noughts64 _).mono ?_
      rintro e w' ⟨rfl, rfl⟩
      refine hK _ _ ((World.cell?_alloc_lt _ _ _ hlt).trans hcell) ?_
      clear hK K
      with_reducible refine wpHead_force rfl (fun K hK => ?_)
      with_reducible refine wp_buildCell 53 9 _ rfl (sv zeros64) rfl ?_ Try.underlying53 (by kernel_rfl) ?_
      · rfl
      have hlt2 : w.heap.size < (wr.drew.alloc (.cells (Array.replicate 64 (.int .u8 0)) 5)).heap.size := by simp; omega
      with_reducible refine hK _ _ ?_ ?_
      · exact (World.cell?_alloc_lt _ _ _ hlt2).trans ((World.cell?_alloc_lt _ _ _ hlt).trans hcell)
      clear hK K
      simp only [Act.put, List.setIfInBounds_toArray, List.set_cons_succ, List.set_cons_zero]
      with_reducible refine wpHead_force rfl (fun K hK => ?_)
      obtain ⟨i0, hi0, hz0, hz1, hz2⟩ := info_parts info_string
      have hown0 : World.ownsRow ((wr.drew.alloc (.cells (Array.replicate 64 (.int .u8 0)) 5)).alloc (.cells #[sv zeros64] 9)) (w.heap.size + 1) 9 1 kv k (keptS (List.replicate k zeros64)) :=
        World.ownsRow.alloc (World.ownsRow.alloc (show World.ownsRow wr.drew (w.heap.size + 1) 9 1 kv k (keptS (List.replicate k zeros64)) from HOWN.out) _) _
      with_reducible refine wp_append_at _ _ _ 53 rfl (w.heap.size + 1) 9 i0 (.string ⟨#[]⟩) 1 16 (by kernel_rfl) hi0 hz0 hz1 hz2 rfl (by decide) kv k (keptS (List.replicate k zeros64)) ?_ hown0 ⟨(wr.drew.alloc (.cells (Array.replicate 64 (.int .u8 0)) 5)).heap.size, 0, none⟩ 1 1 [sv zeros64] ?_ rfl (fun j u hu => ?_) (fun u hu => ?_) (by simp only [maxLen]; omega) (by omega) (by simp; omega) ?_
      · rfl
      · rfl
      · rw [add_at, block_cell (heap_alloc_new _ _), Nat.zero_add, List.getElem?_toArray]; exact hu
      · simp only [List.mem_singleton] at hu; subst hu; rfl
      intro cv' w1 hown1 hg1 _ hat
      have hkvb : kv.ownBlock ≠ some w.heap.size := fun e => by have := (HOWN.out.lt _ e).1; omega
      have hb1 : w1.heap[w.heap.size]? = some (.cells #[kv, .slice none 0 0, .bool false, .int .i64 0, .int .u64 0, .int .i64 0] 56 (0, 0)) := by
        rw [hg1.block _ (by simp; omega) (fun e => hkvb e.symm), Below.heap_alloc _ _ _ hlt2]
        exact (Below.heap_alloc wr.drew _ _ hlt).trans HBLK.out
      have hcv : ∀ g, cv'.ownBlock = some g → w.heap.size < g := fun g hg => by have := (hown1.lt _ hg).1; omega
      have hfr : Fr (fun _ => False) w w1 := (((Fr.of_below (F := fun _ => False) HB.out).drew.alloc _).alloc _).grown hg1 (fun g hg => .inr (by have := (HOWN.out.lt _ hg).1; omega))
      obtain ⟨A', cap', rfl, -, -⟩ := own_form hown1
      have x0 : w1.cell? ⟨w.heap.size, 0, none⟩ = some kv := block_cell hb1 0
      have y0 : w1.frozen? ⟨w.heap.size, 0, none⟩ = false := block_free hb1 0
      have hlt1 : w.heap.size < w1.heap.size := block_lt hb1
      with_reducible refine hK _ _ x0 (wpHead_nil ?_)
      clear hK K
      have HB1 := Lib.hid hb1
      have HFR := Lib.hid hfr
      have HOWN1 := Lib.hid hown1
      have HCV := Lib.hid hcv
      clear hown0 hown1 hg1 hat hb1 hfr hcv hi0 hz0 hz1 hz2 hkvb hcell hlt2
      go_wp2_with fail
      go_roundw
      case rel =>
        refine ⟨k + 1, _, by go_num, by omega, (HFR.out.setCell (.inr (Nat.le_refl _)) _).below (Nat.le_refl _) (fun _ h => h.elim), by simpa using hlt1, heap_setCell_six _ HB1.out, ?_⟩
        rw [keptS_snoc]
        exact ownsRow_setCell HOWN1.out (fun g hg => by have := HCV.out g hg; omega)
      case measure => simp [intOf]; omega
    · obtain rfl : k = n := by omega
      go_wp2_with fail
      go_ret
      have hown := HOWN.out
      obtain ⟨A, cap, rfl, hcl, hrow⟩ := own_form hown
      obtain ⟨g, cur, rfl, hgo, hg, hcur⟩ := hrow (by omega)
      have hgb := (hown.lt g hgo)
      refine ⟨w.heap.size, rfl, HB.out, g, cap, cur.toList.drop k, .slice none 0 0, ?_⟩
      have hlen : (DSt.new k).kept.length = k := by simp [DSt.new]
      exact {
        blk := by rw [HBLK.out]; simp [refCells, DSt.new]
        kept := by
          rw [hg]
          congr 3
          apply Array.ext'
          rw [List.toList_toArray]
          have ht : cur.toList.take k = keptS (DSt.new k).kept := by
            apply List.ext_getElem?
            intro j
            by_cases hj : j < k
            · rw [List.getElem?_take_of_lt hj]
              have h3 := keptS_get (List.replicate k zeros64) j (by simpa using hj)
              have h4 := hcur j _ h3
              rw [Array.getElem?_toList, h4]
              exact h3.symm
            · rw [List.getElem?_eq_none (by simp; omega), List.getElem?_eq_none (by rw [keptS_length, hlen]; omega)]
          rw [← ht, List.take_append_drop]
        cache := World.ownsRow_nil _ _ _ _
        wf := DSt.new_wf k h1 h2
        fb := ⟨Nat.le_refl _, hlt⟩
        fk := ⟨by omega, hgb.2⟩
        fc := fun k hk => by simp [Value.ownBlock] at hk
        bd := fun k hk => hk.2 }
end Go.Proofs.Ytbdhicjebeoakaa
