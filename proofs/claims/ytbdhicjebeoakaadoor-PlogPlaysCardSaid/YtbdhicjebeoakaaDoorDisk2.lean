/- disk.New, Start, Arm, Kept: what they do to the disk in memory. -/
import Derived.Test.YtbdhicjebeoakaaDoorDisk1
set_option linter.unusedVariables false
set_option linter.unusedSimpArgs false
namespace Go.Proofs.YtbdhicjebeoakaaDoor
open Go.RowKit

theorem bv_zeros : bv zeros64 = List.replicate 64 (.int .u8 0) := by simp [bv, zeros64]
theorem keptV_zeros (n : Nat) : keptV (List.replicate n zeros64) = List.replicate (n * 64) (.int .u8 0) := by
  induction n with
  | zero => simp [keptV, rowV]
  | succ n ih =>
    have h1 : keptV (List.replicate (n + 1) zeros64) = bv zeros64 ++ keptV (List.replicate n zeros64) := by simp only [keptV, rowV, List.replicate_succ, List.flatMap_cons]
    rw [h1, ih, bv_zeros, List.replicate_append_replicate]
    congr 1; omega
theorem make_sectors (n : Nat) (h : n ≤ 4096) (W : World) :
    (Instr.makeSlice 98 (.int .i64 (n : Int)) (.int .i64 (n : Int))).run Tryd.prog W = .ok (.slice (some ⟨W.heap.size, 0, none⟩) n n) (W.alloc (.cells (keptV (List.replicate n zeros64)).toArray 105)) := by
  rw [keptV_zeros]
  have := run_make_same (P := Tryd.prog) 98 105 (.int .u8 0) 64 64 (by kernel_rfl) (by kernel_rfl) (by decide) n (by omega) (by omega) W
  simpa using this
theorem new_bad (n : Int) (w : World) (h : n < 1 ∨ 4096 < n) :
    Calls Tryd.prog 29 #[.int .i64 n] w fun e w' => e = .returned (.tuple #[.pointer none, .int .i64 1]) ∧ w = w' := by
  rcases h with h | h
  · go_enter Tryd.func29, Tryd.ntmps29
    go_wp2
    go_ret2
    exact ⟨rfl, rfl⟩
  · have h1 : ¬ n < 1 := by omega
    go_enter Tryd.func29, Tryd.ntmps29
    go_wp2
    go_ret2
    exact ⟨rfl, rfl⟩
theorem new_ok (n : Nat) (w : World) (h : 1 ≤ n) (h2 : n ≤ 4096) :
    Calls Tryd.prog 29 #[.int .i64 n] w fun e w' => ∃ b, e = .returned (.tuple #[.pointer (some ⟨b, 0, none⟩), .int .i64 0]) ∧ Below w.heap.size w w' ∧
      IsDisk w' (fun k => w.heap.size ≤ k ∧ k < w'.heap.size) b (DSt.new n) := by
  have hmk := make_sectors n h2
  go_enter Tryd.func29, Tryd.ntmps29
  go_wp2
  go_ret2
  refine ⟨w.heap.size + 1, rfl, ((Below.refl _ _).alloc (Nat.le_refl _) _).alloc (by simp) _, w.heap.size, .slice none 0 0, ?_⟩
  exact {
    blk := by
      have h1 := heap_alloc_new (w.alloc (.cells (keptV (List.replicate n zeros64)).toArray 105)) (.cells #[Value.slice (some ⟨w.heap.size, 0, none⟩) n n, Value.slice none 0 0, Value.bool false, Value.int IntKind.i64 0, Value.int IntKind.u64 0, Value.int IntKind.i64 0] 101)
      rw [World.size_alloc] at h1
      rw [h1]
      simp [diskCells, DSt.new]
    kept := by
      rw [Below.heap_alloc _ _ _ (by simp), heap_alloc_new]
      simp [DSt.new]
    cache := World.ownsRow_nil _ _ _ _
    wf := DSt.new_wf n h h2
    fb := ⟨by omega, by simp⟩
    fk := ⟨by omega, by simp; omega⟩
    fc := fun k hk => by simp [Value.ownBlock] at hk
    bd := fun k hk => hk.2 }

theorem start_nil (w : World) :
    Calls Tryd.prog 45 #[.pointer none] w fun e w' => e = .returned (.tuple #[]) ∧ w = w' := by
  go_enter Tryd.func45, Tryd.ntmps45
  go_wp2
  go_end0
  exact ⟨rfl, rfl⟩
theorem start_any {w : World} {F : Nat → Prop} {b : Nat} {d : DSt} (h : IsDisk w F b d) :
    Calls Tryd.prog 45 #[.pointer (some ⟨b, 0, none⟩)] w fun e w' => e = .returned (.tuple #[]) ∧ Fr F w w' ∧ IsDisk w' F b d.start := by
  obtain ⟨kb, cv, h⟩ := h
  obtain ⟨-, -, c2, c3, -⟩ := h.cells
  have f2 := block_free h.blk 2
  have f3 := block_free h.blk 3
  have H := Lib.hid h
  clear h
  go_enter Tryd.func45, Tryd.ntmps45
  go_wp2
  go_end0
  have h := H.out
  have hb : ((w.setCell ⟨b, 2, none⟩ (.bool false)).setCell ⟨b, 3, none⟩ (.int .i64 0)).heap[b]? = some (.cells (diskCells kb cv d.start) 101 (0, 0)) := heap_setCell_six _ (heap_setCell_six _ h.blk)
  refine ⟨rfl, ((Fr.refl _ _).setCell (.inl h.fb) _).setCell (.inl h.fb) _, kb, cv, h.fields hb (fun k hk hne => ?_) (by simp) rfl rfl (DSt.start_wf h.wf)⟩
  rw [heap_setCell_other _ _ _ _ hne, heap_setCell_other _ _ _ _ hne]
theorem arm_nil (c b : Int) (w : World) :
    Calls Tryd.prog 43 #[.pointer none, .agg #[.int .i64 c, .int .u64 b]] w fun e w' => e = .returned (.tuple #[]) ∧ Below w.heap.size w w' := by
  go_enter Tryd.func43, Tryd.ntmps43
  go_wp2
  go_end0
  exact ⟨rfl, (Below.refl _ _).alloc (Nat.le_refl _) _⟩
theorem arm_end {w : World} {F : Nat → Prop} {b kb : Nat} {cv : Value} {d : DSt} (h : DMem w F b kb cv d) {c u : Int} (x : Int) (hx : (if 0 ≤ c then c else 0) = x) (hc : c ≤ 9223372036854775807) (hb : 0 ≤ u) (hb' : u ≤ 18446744073709551615) (o : Obj) :
    Fr F w (((w.setCell ⟨b, 3, none⟩ (.int .i64 x)).setCell ⟨b, 4, none⟩ (.int .u64 u)).alloc o).drew ∧
    IsDisk (((w.setCell ⟨b, 3, none⟩ (.int .i64 x)).setCell ⟨b, 4, none⟩ (.int .u64 u)).alloc o).drew (Ext F w (((w.setCell ⟨b, 3, none⟩ (.int .i64 x)).setCell ⟨b, 4, none⟩ (.int .u64 u)).alloc o).drew) b (d.arm c u) := by
  have hlt : b < w.heap.size := block_lt h.blk
  have hwf := DSt.arm_wf h.wf hc hb hb'
  have he : d.arm c u = { d with armed := x, bits := u } := by simp [DSt.arm, hx]
  rw [he] at hwf ⊢
  have hbk : (((w.setCell ⟨b, 3, none⟩ (.int .i64 x)).setCell ⟨b, 4, none⟩ (.int .u64 u)).alloc o).drew.heap[b]? = some (.cells (diskCells kb cv { d with armed := x, bits := u }) 101 (0, 0)) := by
    rw [heap_drew, Below.heap_alloc _ _ _ (by simpa using hlt)]
    exact heap_setCell_six _ (heap_setCell_six _ h.blk)
  have hfr : Fr F w (((w.setCell ⟨b, 3, none⟩ (.int .i64 x)).setCell ⟨b, 4, none⟩ (.int .u64 u)).alloc o).drew := (((((Fr.refl _ _).setCell (.inl h.fb) _).setCell (.inl h.fb) _).alloc _).drew)
  refine ⟨hfr, kb, cv, (h.fields hbk (fun k hk hne => ?_) hfr.size rfl rfl hwf).grow (fun k hk => .inl hk) (fun k hk => ?_)⟩
  · rw [heap_drew, Below.heap_alloc _ _ _ (by simpa using hk), heap_setCell_other _ _ _ _ hne, heap_setCell_other _ _ _ _ hne]
  · rcases hk with hk | hk
    · exact Nat.lt_of_lt_of_le (h.bd k hk) hfr.size
    · exact hk.2
theorem arm_any {w : World} {F : Nat → Prop} {b : Nat} {d : DSt} (h : IsDisk w F b d) (c u : Int) (hc : c ≤ 9223372036854775807) (hb : 0 ≤ u) (hb' : u ≤ 18446744073709551615) :
    Calls Tryd.prog 43 #[.pointer (some ⟨b, 0, none⟩), .agg #[.int .i64 c, .int .u64 u]] w fun e w' => e = .returned (.tuple #[]) ∧ Fr F w w' ∧ IsDisk w' (Ext F w w') b (d.arm c u) := by
  obtain ⟨kb, cv, h⟩ := h
  obtain ⟨-, -, -, c3, c4, -⟩ := h.cells
  have f3 := block_free h.blk 3
  have f4 := block_free h.blk 4
  have hlt : b < w.heap.size := block_lt h.blk
  have H := Lib.hid h
  clear h
  go_enter Tryd.func43, Tryd.ntmps43
  go_wp2
  go_region
  all_goals go_wp2
  · have hlt0 : c < 0 := by assumption
    go_end0
    have h := H.out
    exact ⟨rfl, arm_end h 0 (if_neg (by omega)) hc hb hb' _⟩
  · have hge : 0 ≤ c := by assumption
    go_end0
    have h := H.out
    exact ⟨rfl, arm_end h c (if_pos hge) hc hb hb' _⟩
theorem kept_out (w : World) (b : Nat) (at_ : Int) (h0 : at_ < 0) :
    Calls Tryd.prog 64 #[.pointer (some ⟨b, 0, none⟩), .int .i64 at_] w fun e w' => e = .returned (.string ⟨#[]⟩) ∧ w = w' := by
  go_enter Tryd.func64, Tryd.ntmps64
  go_wp2
  go_ret
  exact ⟨rfl, rfl⟩
theorem kept_nil (w : World) (at_ : Int) :
    Calls Tryd.prog 64 #[.pointer none, .int .i64 at_] w fun e w' => e = .returned (.string ⟨#[]⟩) ∧ w = w' := by
  by_cases h0 : at_ < 0
  · go_enter Tryd.func64, Tryd.ntmps64
    go_wp2
    go_ret
    exact ⟨rfl, rfl⟩
  · go_enter Tryd.func64, Tryd.ntmps64
    go_wp2_with (go_at_call 57; refine (len_nil _).mono ?_; rintro e w' ⟨rfl, rfl⟩)
    go_ret
    exact ⟨rfl, rfl⟩
/-- A whole sector read out of the kept ones. -/
theorem conv_sector {w : World} {kb : Nat} {l : List (List UInt8)} (hk : w.heap[kb]? = some (.cells (keptV l).toArray 105 (0, 0))) (hl : All64 l) (i : Nat) (hi : i < l.length) (c : Nat) :
    (convert 52 9 (.slice (some ⟨kb, i * 64, none⟩) 64 c)).run Tryd.prog w = .ok (.string ⟨(l[i]).toArray⟩) w := by
  have hlen : (l[i]).length = 64 := hl _ (List.getElem_mem hi)
  have := run_convert_bytes_back (P := Tryd.prog) w 52 9 5 ⟨kb, i * 64, none⟩ c l[i] (by kernel_rfl) (by kernel_rfl) (by kernel_rfl) (fun j hj => by
    rw [add_at, block_cell hk]
    have := rowV_get (enc := bv) (n := 64) l (bv_length64 hl) i hi j (.int .u8 (l[i][j].toNat : Int)) (by rw [bv_get, List.getElem?_eq_getElem hj]; rfl)
    simpa [keptV] using this)
  rwa [hlen] at this
theorem kept_any {w : World} {F : Nat → Prop} {b : Nat} {d : DSt} (h : IsDisk w F b d) (at_ : Int) :
    Calls Tryd.prog 64 #[.pointer (some ⟨b, 0, none⟩), .int .i64 at_] w fun e w' => e = .returned (.string ⟨(d.keptAt at_).toArray⟩) ∧ w = w' := by
  by_cases h0 : at_ < 0
  · have he : d.keptAt at_ = [] := by simp [DSt.keptAt, h0]
    rw [he]
    exact kept_out w b at_ h0
  · by_cases h1 : (d.kept.length : Int) ≤ at_
    · have he : d.keptAt at_ = [] := by simp [DSt.keptAt, h1]
      rw [he]
      go_enter Tryd.func64, Tryd.ntmps64
      go_wp2_with (go_at_call 57; refine (len_any h).mono ?_; rintro e w' ⟨rfl, rfl⟩)
      go_ret
      exact ⟨rfl, rfl⟩
    · obtain ⟨i, rfl⟩ := Int.eq_ofNat_of_zero_le (show 0 ≤ at_ by omega)
      have hi : i < d.kept.length := by omega
      have he : d.keptAt (i : Int) = d.kept[i] := by
        simp only [DSt.keptAt]
        rw [if_neg (by omega), List.getD_eq_getElem?_getD, Int.toNat_natCast, List.getElem?_eq_getElem hi]; rfl
      rw [he]
      obtain ⟨kb, cv, hd⟩ := h
      obtain ⟨c0, -⟩ := hd.cells
      have hcv := fun c => conv_sector hd.kept hd.wf.all i hi c
      have hL := Lib.hid (len_any ⟨kb, cv, hd⟩)
      clear hd he
      go_enter Tryd.func64, Tryd.ntmps64
      go_wp2_with (go_at_call 57; refine hL.out.mono ?_; rintro e w' ⟨rfl, rfl⟩)
      go_ret
      exact ⟨rfl, rfl⟩
end Go.Proofs.YtbdhicjebeoakaaDoor
