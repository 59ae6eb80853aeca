/- The reference's disk (package lockageref03) in memory; its small methods: Start, Arm, Read. -/
import Derived.Test.YtbdhicjebeoakaaDisk6
import Derived.Test.YtbdhicjebeoakaaRefFate
import Derived.Lib.SmallJoins
set_option linter.unusedVariables false
set_option linter.unusedSimpArgs false
namespace Go.Proofs.Ytbdhicjebeoakaa
open Go.RowKit

def sv (s : List UInt8) : Value := .string ⟨s.toArray⟩
def keptS (l : List (List UInt8)) : List Value := l.map sv
def wsV (x : Nat × List UInt8) : List Value := [.int .i64 (x.1 : Int), sv x.2]
def cacheS (l : List (Nat × List UInt8)) : List Value := rowV wsV l
theorem wsV_length (l : List (Nat × List UInt8)) : ∀ x ∈ l, (wsV x).length = 2 := fun x hx => rfl
theorem keptS_length (l : List (List UInt8)) : (keptS l).length = l.length := by simp [keptS]
theorem keptS_get (l : List (List UInt8)) (i : Nat) (hi : i < l.length) : (keptS l)[i]? = some (sv (l.getD i [])) := by
  simp [keptS, hi]
theorem keptS_set (l : List (List UInt8)) (i : Nat) (s : List UInt8) : (keptS l).set i (sv s) = keptS (l.set i s) := by
  simp [keptS, List.map_set]

def refCells (kb kcap : Nat) (cv : Value) (d : DSt) : Array Value :=
  #[.slice (some ⟨kb, 0, none⟩) d.kept.length kcap, cv, .bool d.off, .int .i64 d.armed, .int .u64 d.bits, .int .i64 d.writes]
structure RMem (w : World) (F : Nat → Prop) (b kb kcap : Nat) (sp : List Value) (cv : Value) (d : DSt) : Prop where
  blk : w.heap[b]? = some (.cells (refCells kb kcap cv d) 56 (0, 0))
  kept : w.heap[kb]? = some (.cells (keptS d.kept ++ sp).toArray 9 (0, 0))
  cache : w.ownsRow 0 72 2 cv d.cache.length (cacheS d.cache)
  wf : d.Wf
  fb : F b
  fk : F kb
  fc : ∀ k, cv.ownBlock = some k → F k
  bd : ∀ k, F k → k < w.heap.size
def IsRef (w : World) (F : Nat → Prop) (b : Nat) (d : DSt) : Prop := ∃ kb kcap sp cv, RMem w F b kb kcap sp cv d

section
variable {w w' : World} {F G : Nat → Prop} {b kb kcap : Nat} {sp : List Value} {cv : Value} {d d' : DSt}
theorem RMem.frame (h : RMem w F b kb kcap sp cv d) (hf : Fr G w w') (hd : ∀ k, F k → ¬ G k) : RMem w' F b kb kcap sp cv d where
  blk := (hf.block b (h.bd b h.fb) (hd b h.fb)).trans h.blk
  kept := (hf.block kb (h.bd kb h.fk) (hd kb h.fk)).trans h.kept
  cache := by
    refine ⟨h.cache.1, ?_⟩
    rcases h.cache.2 with hn | ⟨g, cap, cur, he, hb, hg, rest⟩
    · exact .inl hn
    · have hF : F g := h.fc g (by rw [he]; rfl)
      exact .inr ⟨g, cap, cur, he, hb, (hf.block g (h.bd g hF) (hd g hF)).trans hg, rest⟩
  wf := h.wf
  fb := h.fb
  fk := h.fk
  fc := h.fc
  bd := fun k hk => Nat.lt_of_lt_of_le (h.bd k hk) hf.size
theorem RMem.grow (h : RMem w F b kb kcap sp cv d) (hg : ∀ k, F k → G k) (hG : ∀ k, G k → k < w.heap.size) : RMem w G b kb kcap sp cv d :=
  ⟨h.blk, h.kept, h.cache, h.wf, hg _ h.fb, hg _ h.fk, fun k hk => hg _ (h.fc k hk), hG⟩
theorem IsRef.frame (h : IsRef w F b d) (hf : Fr G w w') (hd : ∀ k, F k → ¬ G k) : IsRef w' F b d := by
  obtain ⟨kb, kcap, sp, cv, h⟩ := h
  exact ⟨kb, kcap, sp, cv, h.frame hf hd⟩
theorem IsRef.grow (h : IsRef w F b d) (hg : ∀ k, F k → G k) (hG : ∀ k, G k → k < w.heap.size) : IsRef w G b d := by
  obtain ⟨kb, kcap, sp, cv, h⟩ := h
  exact ⟨kb, kcap, sp, cv, h.grow hg hG⟩
theorem IsRef.wf (h : IsRef w F b d) : d.Wf := by obtain ⟨_, _, _, _, h⟩ := h; exact h.wf
theorem IsRef.bd (h : IsRef w F b d) : ∀ k, F k → k < w.heap.size := by obtain ⟨_, _, _, _, h⟩ := h; exact h.bd
theorem IsRef.below (h : IsRef w F b d) (hb : Below w.heap.size w w') : IsRef w' F b d :=
  h.frame (G := fun _ => False) (Fr.of_below hb) (fun _ _ h => h)
theorem RMem.kb_ne (h : RMem w F b kb kcap sp cv d) : kb ≠ b := Ne.symm (block_ne h.blk h.kept (by decide))
theorem RMem.cv_ne (h : RMem w F b kb kcap sp cv d) : cv.ownBlock ≠ some b ∧ cv.ownBlock ≠ some kb := by
  rcases h.cache.2 with ⟨rfl, _⟩ | ⟨g, cap, cur, rfl, _, hg, _⟩
  · simp [Value.ownBlock]
  · have h1 := block_ne hg h.blk (by decide)
    have h2 := block_ne hg h.kept (by decide)
    simp [Value.ownBlock, h1, h2]
theorem RMem.fields (h : RMem w F b kb kcap sp cv d) (hb : w'.heap[b]? = some (.cells (refCells kb kcap cv d') 56 (0, 0)))
    (hk : ∀ k, k < w.heap.size → k ≠ b → w'.heap[k]? = w.heap[k]?) (hs : w.heap.size ≤ w'.heap.size) (h1 : d'.kept = d.kept) (h2 : d'.cache = d.cache) (h3 : d'.Wf) : RMem w' F b kb kcap sp cv d' where
  blk := hb
  kept := by rw [h1, hk kb (h.bd kb h.fk) h.kb_ne]; exact h.kept
  cache := by
    rw [h2]
    refine ⟨h.cache.1, ?_⟩
    rcases h.cache.2 with hn | ⟨g, cap, cur, he, hb, hg, rest⟩
    · exact .inl hn
    · exact .inr ⟨g, cap, cur, he, hb, (hk g (block_lt hg) (block_ne hg h.blk (by decide))).trans hg, rest⟩
  wf := h3
  fb := h.fb
  fk := h.fk
  fc := h.fc
  bd := fun k hk => Nat.lt_of_lt_of_le (h.bd k hk) hs
theorem RMem.cells (h : RMem w F b kb kcap sp cv d) :
    w.cell? ⟨b, 0, none⟩ = some (.slice (some ⟨kb, 0, none⟩) d.kept.length kcap) ∧ w.cell? ⟨b, 1, none⟩ = some cv ∧ w.cell? ⟨b, 2, none⟩ = some (.bool d.off) ∧
    w.cell? ⟨b, 3, none⟩ = some (.int .i64 d.armed) ∧ w.cell? ⟨b, 4, none⟩ = some (.int .u64 d.bits) ∧ w.cell? ⟨b, 5, none⟩ = some (.int .i64 d.writes) := by
  have := block_cell h.blk
  exact ⟨this 0, this 1, this 2, this 3, this 4, this 5⟩
theorem kept_cell {l : List (List UInt8)} (h : w.heap[kb]? = some (.cells (keptS l ++ sp).toArray 9 (0, 0))) {i : Nat} (hi : i < l.length) : w.cell? ⟨kb, i, none⟩ = some (.string ⟨(l.getD i []).toArray⟩) := by
  rw [block_cell h, List.getElem?_toArray, List.getElem?_append_left (by rw [keptS_length]; exact hi)]
  exact keptS_get l i hi
/-- The two cells of a cached write. -/
theorem cache_cells {g : Nat} {cur : Array Value} (hg : w.heap[g]? = some (.cells cur 72 (0, 0))) {l : List (Nat × List UInt8)} (hcur : ∀ (j : Nat) (u : Value), (cacheS l)[j]? = some u → cur[j]? = some u)
    {k a : Nat} {s : List UInt8} (hk : k < l.length) (hp : l[k] = (a, s)) : w.cell? ⟨g, k * 2, none⟩ = some (.int .i64 (a : Int)) ∧ w.cell? ⟨g, k * 2 + 1, none⟩ = some (.string ⟨s.toArray⟩) := by
  have h0 := rowV_get l (wsV_length l) k hk 0 (.int .i64 (a : Int)) (by rw [hp]; rfl)
  have h1 := rowV_get l (wsV_length l) k hk 1 (sv s) (by rw [hp]; rfl)
  exact ⟨(block_cell hg _).trans (hcur _ _ h0), (block_cell hg _).trans (hcur _ _ h1)⟩
end

theorem ref_start {w : World} {F : Nat → Prop} {b : Nat} {d : DSt} (h : IsRef w F b d) :
    Calls Try.prog 27 #[.pointer (some ⟨b, 0, none⟩)] w fun e w' => e = .returned (.tuple #[]) ∧ Fr F w w' ∧ IsRef w' F b d.start := by
  obtain ⟨kb, kcap, sp, cv, h⟩ := h
  obtain ⟨-, -, c2, c3, -⟩ := h.cells
  have f2 := block_free h.blk 2
  have f3 := block_free h.blk 3
  have H := Lib.hid h
  clear h
  go_enter Try.func27, Try.ntmps27
  go_wp2
  go_end0
  have h := H.out
  have hb : ((w.setCell ⟨b, 2, none⟩ (.bool false)).setCell ⟨b, 3, none⟩ (.int .i64 0)).heap[b]? = some (.cells (refCells kb kcap cv d.start) 56 (0, 0)) := heap_setCell_six _ (heap_setCell_six _ h.blk)
  refine ⟨rfl, ((Fr.refl _ _).setCell (.inl h.fb) _).setCell (.inl h.fb) _, kb, kcap, sp, cv, h.fields hb (fun k hk hne => ?_) (by simp) rfl rfl (DSt.start_wf h.wf)⟩
  rw [heap_setCell_other _ _ _ _ hne, heap_setCell_other _ _ _ _ hne]
theorem ref_arm_end {w : World} {F : Nat → Prop} {b kb kcap : Nat} {sp : List Value} {cv : Value} {d : DSt} (h : RMem w F b kb kcap sp cv d) {c u : Int} (x : Int) (hx : (if 0 ≤ c then c else 0) = x) (hc : c ≤ 9223372036854775807) (hb : 0 ≤ u) (hb' : u ≤ 18446744073709551615) (o : Obj) :
    Fr F w (((w.setCell ⟨b, 3, none⟩ (.int .i64 x)).setCell ⟨b, 4, none⟩ (.int .u64 u)).alloc o) ∧
    IsRef (((w.setCell ⟨b, 3, none⟩ (.int .i64 x)).setCell ⟨b, 4, none⟩ (.int .u64 u)).alloc o) (Ext F w (((w.setCell ⟨b, 3, none⟩ (.int .i64 x)).setCell ⟨b, 4, none⟩ (.int .u64 u)).alloc o)) b (d.arm c u) := by
  have hlt : b < w.heap.size := block_lt h.blk
  have hwf := DSt.arm_wf h.wf hc hb hb'
  have he : d.arm c u = { d with armed := x, bits := u } := by simp [DSt.arm, hx]
  rw [he] at hwf ⊢
  have hbk : (((w.setCell ⟨b, 3, none⟩ (.int .i64 x)).setCell ⟨b, 4, none⟩ (.int .u64 u)).alloc o).heap[b]? = some (.cells (refCells kb kcap cv { d with armed := x, bits := u }) 56 (0, 0)) := by
    rw [Below.heap_alloc _ _ _ (by simpa using hlt)]
    exact heap_setCell_six _ (heap_setCell_six _ h.blk)
  have hfr : Fr F w (((w.setCell ⟨b, 3, none⟩ (.int .i64 x)).setCell ⟨b, 4, none⟩ (.int .u64 u)).alloc o) := ((((Fr.refl _ _).setCell (.inl h.fb) _).setCell (.inl h.fb) _).alloc _)
  refine ⟨hfr, kb, kcap, sp, cv, (h.fields hbk (fun k hk hne => ?_) hfr.size rfl rfl hwf).grow (fun k hk => .inl hk) (fun k hk => ?_)⟩
  · rw [Below.heap_alloc _ _ _ (by simpa using hk), heap_setCell_other _ _ _ _ hne, heap_setCell_other _ _ _ _ hne]
  · rcases hk with hk | hk
    · exact Nat.lt_of_lt_of_le (h.bd k hk) hfr.size
    · exact hk.2
theorem ref_arm {w : World} {F : Nat → Prop} {b : Nat} {d : DSt} (h : IsRef w F b d) (c u : Int) (hc : c ≤ 9223372036854775807) (hb : 0 ≤ u) (hb' : u ≤ 18446744073709551615) :
    Calls Try.prog 23 #[.pointer (some ⟨b, 0, none⟩), .agg #[.int .i64 c, .int .u64 u]] w fun e w' => e = .returned (.tuple #[]) ∧ Fr F w w' ∧ IsRef w' (Ext F w w') b (d.arm c u) := by
  obtain ⟨kb, kcap, sp, cv, h⟩ := h
  obtain ⟨-, -, -, c3, c4, -⟩ := h.cells
  have f3 := block_free h.blk 3
  have f4 := block_free h.blk 4
  have hlt : b < w.heap.size := block_lt h.blk
  have hne : b ≠ w.heap.size := by omega
  have H := Lib.hid h
  clear h
  by_cases h0 : 0 ≤ c
  · have hmx : max c 0 = c := by omega
    go_enter Try.func23, Try.ntmps23
    go_wp2
    go_end0
    exact ⟨rfl, ref_arm_end H.out c (if_pos h0) hc hb hb' _⟩
  · have hmx : max c 0 = 0 := by omega
    go_enter Try.func23, Try.ntmps23
    go_wp2
    go_end0
    exact ⟨rfl, ref_arm_end H.out 0 (if_neg (by omega)) hc hb hb' _⟩

theorem sref_cond {d : DSt} {at_ : Int} (h : d.check at_ = 2) : d.off = false ∧ (at_ < 0 ∨ (d.kept.length : Int) ≤ at_) := by
  unfold DSt.check at h
  split at h
  · cases h
  · rename_i h1
    split at h
    · rename_i h2
      exact ⟨by simpa using h1, h2⟩
    · cases h
set_option maxHeartbeats 1000000 in
theorem ref_read {w : World} {F : Nat → Prop} {b : Nat} {d : DSt} (h : IsRef w F b d) (at_ : Int) :
    Calls Try.prog 21 #[.pointer (some ⟨b, 0, none⟩), .int .i64 at_] w fun e w' =>
      e = .returned (.tuple #[.string ⟨(d.read at_).1.toArray⟩, .int .i64 (d.read at_).2]) ∧ w = w' := by
  obtain ⟨kb, kcap, sp, cv, hd⟩ := h
  obtain ⟨c0, c1, c2, -⟩ := hd.cells
  rcases hoff : d.off with _ | _
  case true =>
    have he : d.read at_ = ([], 5) := by simp [DSt.read, DSt.check, hoff]
    rw [he]
    rw [hoff] at c2
    clear hd hoff he
    go_enter Try.func21, Try.ntmps21
    go_wp2
    go_ret2
    exact ⟨rfl, rfl⟩
  rw [hoff] at c2
  by_cases h0 : at_ < 0
  · have he : d.read at_ = ([], 2) := by simp [DSt.read, DSt.check, hoff, h0]
    rw [he]
    clear hd hoff he
    go_enter Try.func21, Try.ntmps21
    go_wp2
    go_ret2
    exact ⟨rfl, rfl⟩
  by_cases h1 : (d.kept.length : Int) ≤ at_
  · have he : d.read at_ = ([], 2) := by simp [DSt.read, DSt.check, hoff, h1]
    rw [he]
    clear hd hoff he
    go_enter Try.func21, Try.ntmps21
    go_wp2
    go_ret2
    exact ⟨rfl, rfl⟩
  obtain ⟨i, rfl⟩ := Int.eq_ofNat_of_zero_le (show 0 ≤ at_ by omega)
  have hi : i < d.kept.length := by omega
  have he : d.read (i : Int) = (lastOf i d.cache (d.kept.getD i []), 0) := by
    have : d.check (i : Int) = 0 := by simp [DSt.check, hoff]; omega
    simp [DSt.read, this]
  rw [he]
  clear h0 h1 he hoff
  have hkc := kept_cell hd.kept hi
  obtain ⟨A, cap, rfl, hcl, hrow⟩ := own_form hd.cache
  have HROW := Lib.hid hrow
  have HD := Lib.hid hd
  generalize hk0 : d.kept.getD i [] = s0 at hkc
  clear hd hrow hk0
  go_enter Try.func21, Try.ntmps21
  go_wp2_with fail
  go_loopw [6, 7] (fun x u wr => ∃ k : Nat, k ≤ d.cache.length ∧ u = .int .i64 k ∧ x = .string ⟨(lastOf i (d.cache.take k) s0).toArray⟩ ∧ w = wr) (fun _ u _ => d.cache.length - (intOf u).toNat)
  case atStart => exact ⟨0, Nat.zero_le _, rfl, rfl, rfl⟩
  case round =>
    obtain ⟨k, hk, rfl, rfl, rfl⟩ := hrel
    by_cases hlt : k < d.cache.length
    · obtain ⟨g, cur, rfl, -, hg, hcur⟩ := HROW.out (by omega)
      obtain ⟨a, s, hp⟩ : ∃ a s, d.cache[k] = (a, s) := ⟨_, _, rfl⟩
      obtain ⟨q0, q1⟩ := cache_cells hg hcur hlt hp
      have HSTEP : Hid (lastOf i (d.cache.take (k + 1)) s0 = if a = i then s else lastOf i (d.cache.take k) s0) := by
        show lastOf i (d.cache.take (k + 1)) s0 = _
        rw [List.take_succ_eq_append_getElem hlt, hp, lastOf_snoc]
      clear hg hcur hp
      generalize lastOf i (d.cache.take k) s0 = cu at HSTEP
      by_cases he : a = i
      · subst he
        go_wp2_with fail
        go_roundw
        case rel => exact ⟨k + 1, by omega, by go_num, by rw [HSTEP.out, if_pos rfl], by first | trivial | rfl⟩
        case measure => simp [intOf]; omega
      · have hne : ((a : Int) == (i : Int)) = false := by simp; omega
        go_wp2_with fail
        go_roundw
        case rel => exact ⟨k + 1, by omega, by go_num, by rw [HSTEP.out, if_neg he], by first | trivial | rfl⟩
        case measure => simp [intOf]; omega
    · obtain rfl : k = d.cache.length := by omega
      rw [List.take_length]
      go_wp2
      go_ret2
      exact ⟨rfl, rfl⟩
end Go.Proofs.Ytbdhicjebeoakaa
