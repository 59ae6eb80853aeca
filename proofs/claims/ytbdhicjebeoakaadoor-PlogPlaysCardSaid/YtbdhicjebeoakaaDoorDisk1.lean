/- The disk in memory, and what its small methods do: Fate, New, Len, Down, Writes, check, Start, Arm, Kept. -/
import Derived.Test.YtbdhicjebeoakaaDoorRows
import Derived.Test.YtbdhicjebeoakaaDoorPure
import Derived.Test.YtbdhicjebeoakaaDoorMem
set_option linter.unusedVariables false
set_option linter.unusedSimpArgs false
namespace Go.Proofs.YtbdhicjebeoakaaDoor
open Go.RowKit

def keptV (l : List (List UInt8)) : List Value := rowV bv l
def wrV (x : Nat × List UInt8) : List Value := .int .i64 (x.1 : Int) :: bv x.2
def cacheV (l : List (Nat × List UInt8)) : List Value := rowV wrV l
theorem wrV_length {n : Nat} {l : List (Nat × List UInt8)} (h : Fits n l) : ∀ x ∈ l, (wrV x).length = 65 := fun x hx => by simp [wrV, bv_length, (h x hx).2]
theorem bv_length64 {l : List (List UInt8)} (h : All64 l) : ∀ x ∈ l, (bv x).length = 64 := fun x hx => by rw [bv_length, h x hx]

/-- The six cells of a disk. -/
def diskCells (kb : Nat) (cv : Value) (d : DSt) : Array Value :=
  #[.slice (some ⟨kb, 0, none⟩) d.kept.length d.kept.length, cv, .bool d.off, .int .i64 d.armed, .int .u64 d.bits, .int .i64 d.writes]
structure DMem (w : World) (F : Nat → Prop) (b kb : Nat) (cv : Value) (d : DSt) : Prop where
  blk : w.heap[b]? = some (.cells (diskCells kb cv d) 101 (0, 0))
  kept : w.heap[kb]? = some (.cells (keptV d.kept).toArray 105 (0, 0))
  cache : w.ownsRow 0 107 65 cv d.cache.length (cacheV d.cache)
  wf : d.Wf
  fb : F b
  fk : F kb
  fc : ∀ k, cv.ownBlock = some k → F k
  bd : ∀ k, F k → k < w.heap.size
def IsDisk (w : World) (F : Nat → Prop) (b : Nat) (d : DSt) : Prop := ∃ kb cv, DMem w F b kb cv d

theorem DMem.frame {w w' : World} {F G : Nat → Prop} {b kb : Nat} {cv : Value} {d : DSt} (h : DMem w F b kb cv d) (hf : Fr G w w') (hd : ∀ k, F k → ¬ G k) : DMem w' F b kb cv d where
  blk := (hf.block b (h.bd b h.fb) (hd b h.fb)).trans h.blk
  kept := (hf.block kb (h.bd kb h.fk) (hd kb h.fk)).trans h.kept
  cache := by
    refine ⟨h.cache.1, ?_⟩
    rcases h.cache.2 with hn | ⟨g, cap, cur, he, hb, hg, rest⟩
    · exact .inl hn
    · have hF : F g := h.fc g (by rw [he]; rfl)
      exact .inr ⟨g, cap, cur, he, hb, (hf.block g (h.bd g hF) (hd g hF)).trans hg, rest⟩
  wf := h.wf
  fb := h.fb
  fk := h.fk
  fc := h.fc
  bd := fun k hk => Nat.lt_of_lt_of_le (h.bd k hk) hf.size
theorem DMem.grow {w : World} {F G : Nat → Prop} {b kb : Nat} {cv : Value} {d : DSt} (h : DMem w F b kb cv d) (hg : ∀ k, F k → G k) (hG : ∀ k, G k → k < w.heap.size) : DMem w G b kb cv d :=
  ⟨h.blk, h.kept, h.cache, h.wf, hg _ h.fb, hg _ h.fk, fun k hk => hg _ (h.fc k hk), hG⟩
theorem IsDisk.frame {w w' : World} {F G : Nat → Prop} {b : Nat} {d : DSt} (h : IsDisk w F b d) (hf : Fr G w w') (hd : ∀ k, F k → ¬ G k) : IsDisk w' F b d := by
  obtain ⟨kb, cv, h⟩ := h
  exact ⟨kb, cv, h.frame hf hd⟩
theorem IsDisk.grow {w : World} {F G : Nat → Prop} {b : Nat} {d : DSt} (h : IsDisk w F b d) (hg : ∀ k, F k → G k) (hG : ∀ k, G k → k < w.heap.size) : IsDisk w G b d := by
  obtain ⟨kb, cv, h⟩ := h
  exact ⟨kb, cv, h.grow hg hG⟩
theorem IsDisk.wf {w : World} {F : Nat → Prop} {b : Nat} {d : DSt} (h : IsDisk w F b d) : d.Wf := by obtain ⟨_, _, h⟩ := h; exact h.wf
theorem IsDisk.bd {w : World} {F : Nat → Prop} {b : Nat} {d : DSt} (h : IsDisk w F b d) : ∀ k, F k → k < w.heap.size := by obtain ⟨_, _, h⟩ := h; exact h.bd
theorem IsDisk.below {w w' : World} {F : Nat → Prop} {b : Nat} {d : DSt} (h : IsDisk w F b d) (hb : Below w.heap.size w w') : IsDisk w' F b d :=
  h.frame (G := fun _ => False) (Fr.of_below hb) (fun _ _ h => h)

theorem DMem.kb_ne {w : World} {F : Nat → Prop} {b kb : Nat} {cv : Value} {d : DSt} (h : DMem w F b kb cv d) : kb ≠ b := Ne.symm (block_ne h.blk h.kept (by decide))
theorem DMem.cv_ne {w : World} {F : Nat → Prop} {b kb : Nat} {cv : Value} {d : DSt} (h : DMem w F b kb cv d) : cv.ownBlock ≠ some b ∧ cv.ownBlock ≠ some kb := by
  rcases h.cache.2 with ⟨rfl, _⟩ | ⟨g, cap, cur, rfl, _, hg, _⟩
  · simp [Value.ownBlock]
  · have h1 := block_ne hg h.blk (by decide)
    have h2 := block_ne hg h.kept (by decide)
    simp [Value.ownBlock, h1, h2]
/-- Only the disk's own six cells have turned. -/
theorem DMem.fields {w w' : World} {F : Nat → Prop} {b kb : Nat} {cv : Value} {d d' : DSt} (h : DMem w F b kb cv d) (hb : w'.heap[b]? = some (.cells (diskCells kb cv d') 101 (0, 0)))
    (hk : ∀ k, k < w.heap.size → k ≠ b → w'.heap[k]? = w.heap[k]?) (hs : w.heap.size ≤ w'.heap.size) (h1 : d'.kept = d.kept) (h2 : d'.cache = d.cache) (h3 : d'.Wf) : DMem w' F b kb cv d' where
  blk := hb
  kept := by rw [h1, hk kb (h.bd kb h.fk) h.kb_ne]; exact h.kept
  cache := by
    rw [h2]
    refine ⟨h.cache.1, ?_⟩
    rcases h.cache.2 with hn | ⟨g, cap, cur, he, hb, hg, rest⟩
    · exact .inl hn
    · exact .inr ⟨g, cap, cur, he, hb, (hk g (block_lt hg) (block_ne hg h.blk (by decide))).trans hg, rest⟩
  wf := h3
  fb := h.fb
  fk := h.fk
  fc := h.fc
  bd := fun k hk => Nat.lt_of_lt_of_le (h.bd k hk) hs

/-! ### Fate -/
theorem and_mask (x : Int) (k : Nat) (m : Int) (hm : (BitVec.ofInt 64 m).toNat = 2 ^ k - 1) (hk : k < 63) : Go.bits BinOp.and IntKind.i64 x m = x % ((2 ^ k : Nat) : Int) := by
  have hp : 0 < 2 ^ k := Nat.pow_pos (by decide)
  have hd : (2 ^ k) ∣ (18446744073709551616 : Nat) := ⟨2 ^ (64 - k), by rw [← Nat.pow_add, show k + (64 - k) = 64 by omega]⟩
  have h : (BitVec.ofInt 64 x &&& BitVec.ofInt 64 m).toNat = (x % ((2 ^ k : Nat) : Int)).toNat := by
    rw [BitVec.toNat_and, BitVec.toNat_ofInt, hm, Nat.and_two_pow_sub_one_eq_mod]
    have hx : 0 ≤ x % ((2 ^ 64 : Nat) : Int) := Int.emod_nonneg _ (by decide)
    apply Int.ofNat.inj
    show (((x % ((2 ^ 64 : Nat) : Int)).toNat % 2 ^ k : Nat) : Int) = _
    rw [Int.natCast_emod, Int.toNat_of_nonneg hx, Int.emod_emod_of_dvd _ (Int.natCast_dvd_natCast.2 hd)]
    show _ = (((x % ((2 ^ k : Nat) : Int)).toNat : Nat) : Int)
    rw [Int.toNat_of_nonneg (Int.emod_nonneg _ (by omega))]
  show IntKind.i64.wrap ((BitVec.ofInt 64 x &&& BitVec.ofInt 64 m).toNat : Int) = _
  have h0 : 0 ≤ x % ((2 ^ k : Nat) : Int) := Int.emod_nonneg _ (by omega)
  have h1 : x % ((2 ^ k : Nat) : Int) < ((2 ^ k : Nat) : Int) := Int.emod_lt_of_pos _ (by omega)
  have h2 : 2 ^ k ≤ 2 ^ 62 := Nat.pow_le_pow_right (by decide) (by omega)
  rw [h, IntKind.wrap_i64, Int.toNat_of_nonneg h0]
  omega
theorem and7 (x : Int) : Go.bits BinOp.and IntKind.i64 x 7 = x % 8 := and_mask x 3 7 (by decide) (by decide)
theorem and1 (x : Int) : Go.bits BinOp.and IntKind.i64 x 1 = x % 2 := and_mask x 1 1 (by decide) (by decide)
theorem wrap_mod8 (x : Int) : wrap64 x % 8 = x % 8 := by unfold wrap64; omega
theorem fateN_way1 {X : Int} (h : (X % 2 == 0) = true) : fateN (X % 8) = 0 := by
  have h' : X % 2 = 0 := by simpa using h
  unfold fateN; rw [if_pos (by omega)]
theorem fateN_way2 {X : Int} (h : (X % 2 == 0) = false) (h2 : (X % 8 == 1) = true) : fateN (X % 8) = 64 := by
  have h' : X % 2 ≠ 0 := by simpa using h
  have h2' : X % 8 = 1 := by simpa using h2
  unfold fateN; rw [if_neg (by omega), if_pos h2']
theorem fateN_way3 {X : Int} (h : (X % 2 == 0) = false) (h2 : (X % 8 == 1) = false) : (fateN (X % 8) : Int) = 16 * (X % 8 / 2) := by
  have h' : X % 2 ≠ 0 := by simpa using h
  have h2' : X % 8 ≠ 1 := by simpa using h2
  unfold fateN; rw [if_neg (by omega), if_neg h2']; omega
theorem fate_any (bits i : Int) (w : World) (hb : 0 ≤ bits) (hb2 : bits ≤ 18446744073709551615) :
    Calls Tryd.prog 60 #[.int .u64 bits, .int .i64 i] w fun e w' => e = .returned (.int .i64 (fate bits i)) ∧ w = w' := by
  by_cases h : i < 0
  · go_enter Tryd.func60, Tryd.ntmps60
    go_wp2
    go_ret
    exact ⟨by simp [fate, h], rfl⟩
  · have h0 : 0 ≤ i := by omega
    have hfate : fate bits i = fateN ((bits / 2 ^ (3 * (i % 21)).toNat) % 8) := by simp [fate, h]
    generalize hX : bits / 2 ^ (3 * (i % 21)).toNat = X at hfate
    have e1 := and7
    have e2 := and1
    have e3 := wrap_mod8
    have hc0 : 0 ≤ X % 8 := Int.emod_nonneg _ (by decide)
    have hc8 : X % 8 < 8 := Int.emod_lt_of_pos _ (by decide)
    have hX' : Hid (fate bits i = fateN (X % 8)) := hfate
    clear hfate
    go_enter Tryd.func60, Tryd.ntmps60
    go_wp2
    · go_ret
      exact ⟨by rw [hX'.out, fateN_way1 (by assumption)]; rfl, rfl⟩
    · go_ret
      exact ⟨by rw [hX'.out, fateN_way2 (by assumption) (by assumption)]; rfl, rfl⟩
    · go_ret
      exact ⟨by rw [hX'.out, fateN_way3 (by assumption) (by assumption)]; rfl, rfl⟩

/-! ### The six cells, one by one -/
theorem DMem.cells {w : World} {F : Nat → Prop} {b kb : Nat} {cv : Value} {d : DSt} (h : DMem w F b kb cv d) :
    w.cell? ⟨b, 0, none⟩ = some (.slice (some ⟨kb, 0, none⟩) d.kept.length d.kept.length) ∧ w.cell? ⟨b, 1, none⟩ = some cv ∧ w.cell? ⟨b, 2, none⟩ = some (.bool d.off) ∧
    w.cell? ⟨b, 3, none⟩ = some (.int .i64 d.armed) ∧ w.cell? ⟨b, 4, none⟩ = some (.int .u64 d.bits) ∧ w.cell? ⟨b, 5, none⟩ = some (.int .i64 d.writes) := by
  have := block_cell h.blk
  exact ⟨this 0, this 1, this 2, this 3, this 4, this 5⟩

theorem len_any {w : World} {F : Nat → Prop} {b : Nat} {d : DSt} (h : IsDisk w F b d) :
    Calls Tryd.prog 57 #[.pointer (some ⟨b, 0, none⟩)] w fun e w' => e = .returned (.int .i64 d.kept.length) ∧ w = w' := by
  obtain ⟨kb, cv, h⟩ := h
  obtain ⟨c0, -⟩ := h.cells
  clear h
  go_enter Tryd.func57, Tryd.ntmps57
  go_wp2
  go_ret
  exact ⟨rfl, rfl⟩
theorem len_nil (w : World) :
    Calls Tryd.prog 57 #[.pointer none] w fun e w' => e = .returned (.int .i64 0) ∧ w = w' := by
  go_enter Tryd.func57, Tryd.ntmps57
  go_wp2
  go_ret
  exact ⟨rfl, rfl⟩
theorem down_any {w : World} {F : Nat → Prop} {b : Nat} {d : DSt} (h : IsDisk w F b d) :
    Calls Tryd.prog 58 #[.pointer (some ⟨b, 0, none⟩)] w fun e w' => e = .returned (.bool d.off) ∧ w = w' := by
  obtain ⟨kb, cv, h⟩ := h
  obtain ⟨-, -, c2, -⟩ := h.cells
  clear h
  go_enter Tryd.func58, Tryd.ntmps58
  go_wp2
  go_ret
  exact ⟨rfl, rfl⟩
theorem down_nil (w : World) :
    Calls Tryd.prog 58 #[.pointer none] w fun e w' => e = .returned (.bool false) ∧ w = w' := by
  go_enter Tryd.func58, Tryd.ntmps58
  go_wp2
  go_ret
  exact ⟨rfl, rfl⟩
theorem check_nil (at_ : Int) (w : World) :
    Calls Tryd.prog 83 #[.pointer none, .int .i64 at_] w fun e w' => e = .returned (.int .i64 8) ∧ w = w' := by
  go_enter Tryd.func83, Tryd.ntmps83
  go_wp2
  go_ret
  exact ⟨rfl, rfl⟩
theorem check_any {w : World} {F : Nat → Prop} {b : Nat} {d : DSt} (h : IsDisk w F b d) (at_ : Int) :
    Calls Tryd.prog 83 #[.pointer (some ⟨b, 0, none⟩), .int .i64 at_] w fun e w' => e = .returned (.int .i64 (d.check at_)) ∧ w = w' := by
  obtain ⟨kb, cv, h⟩ := h
  obtain ⟨c0, -, c2, -⟩ := h.cells
  clear h
  rcases hoff : d.off with _ | _
  · rw [hoff] at c2
    by_cases h1 : at_ < 0
    · have hc : Hid (d.check at_ = 2) := by show d.check at_ = 2; simp [DSt.check, hoff, h1]
      clear hoff
      go_enter Tryd.func83, Tryd.ntmps83
      go_wp2
      go_ret
      exact ⟨ret_int hc.out.symm, rfl⟩
    · by_cases h2 : (d.kept.length : Int) ≤ at_
      · have hc : Hid (d.check at_ = 2) := by show d.check at_ = 2; simp [DSt.check, hoff, h2]
        clear hoff
        go_enter Tryd.func83, Tryd.ntmps83
        go_wp2
        go_ret
        exact ⟨ret_int hc.out.symm, rfl⟩
      · have hc : Hid (d.check at_ = 0) := by show d.check at_ = 0; simp [DSt.check, hoff]; omega
        clear hoff
        go_enter Tryd.func83, Tryd.ntmps83
        go_wp2
        go_ret
        exact ⟨ret_int hc.out.symm, rfl⟩
  · rw [hoff] at c2
    have hc : Hid (d.check at_ = 5) := by show d.check at_ = 5; simp [DSt.check, hoff]
    clear hoff
    go_enter Tryd.func83, Tryd.ntmps83
    go_wp2
    go_ret
    exact ⟨ret_int hc.out.symm, rfl⟩
end Go.Proofs.YtbdhicjebeoakaaDoor
