/- A disk that the call itself has made: each method once more, with all that is new counted as its own; and lockagelaw03.awake. -/
import Derived.Test.YtbdhicjebeoakaaFill
set_option linter.unusedVariables false
set_option linter.unusedSimpArgs false
namespace Go.Proofs.Ytbdhicjebeoakaa
open Go.RowKit

/-- Nothing of W has turned; of what is new there is a disk at b. -/
structure Own (W w : World) (b : Nat) (d : DSt) : Prop where
  below : Below W.heap.size W w
  disk : IsDisk w (fun k => W.heap.size ≤ k ∧ k < w.heap.size) b d
theorem Own.next {W w w' : World} {b : Nat} {d d' : DSt} (h : Own W w b d) (hf : Fr (fun k => W.heap.size ≤ k ∧ k < w.heap.size) w w') (hd : IsDisk w' (Ext (fun k => W.heap.size ≤ k ∧ k < w.heap.size) w w') b d') : Own W w' b d' := by
  have hs := h.below.size
  have hs' := hf.size
  refine ⟨h.below.trans (hf.below hs (fun k hk => hk.1)), hd.grow (fun k hk => ?_) (fun k hk => hk.2)⟩
  rcases hk with ⟨h1, h2⟩ | ⟨h1, h2⟩
  · exact ⟨h1, by omega⟩
  · exact ⟨by omega, h2⟩
theorem Own.later {W w w' : World} {b : Nat} {d : DSt} (h : Own W w b d) (hb : Below w.heap.size w w') : Own W w' b d := by
  have hs := h.below.size
  have hs' := hb.size
  refine ⟨h.below.trans (hb.mono hs), (h.disk.below hb).grow (fun k hk => ⟨hk.1, by omega⟩) (fun k hk => hk.2)⟩
theorem Own.alloc {W w : World} {b : Nat} {d : DSt} (h : Own W w b d) (o : Obj) : Own W (w.alloc o) b d := h.later ((Below.refl _ _).alloc (Nat.le_refl _) _)
theorem Own.drew {W w : World} {b : Nat} {d : DSt} (h : Own W w b d) : Own W w.drew b d := h.later (Below.refl _ _).drew

theorem own_new (n : Nat) (w : World) (h : 1 ≤ n) (h2 : n ≤ 4096) :
    Calls Try.prog 12 #[.int .i64 n] w fun e w' => ∃ b, e = .returned (.tuple #[.pointer (some ⟨b, 0, none⟩), .int .i64 0]) ∧ Own w w' b (DSt.new n) :=
  (new_ok n w h h2).mono fun e w' ⟨b, h1, h2, h3⟩ => ⟨b, h1, h2, h3⟩
section
variable {W w : World} {b : Nat} {d : DSt}
theorem own_write (h : Own W w b d) (at_ : Int) (s : ByteArray) (hwr : d.writes < 1000000000) :
    Calls Try.prog 13 #[.pointer (some ⟨b, 0, none⟩), .int .i64 at_, .string s] w fun e w' => e = .returned (.int .i64 (d.write at_ s.data.toList).1) ∧ Own W w' b (d.write at_ s.data.toList).2 :=
  (write_any h.disk at_ s hwr).mono fun e w' ⟨h1, h2, h3⟩ => ⟨h1, h.next h2 h3⟩
theorem own_flush (h : Own W w b d) :
    Calls Try.prog 15 #[.pointer (some ⟨b, 0, none⟩)] w fun e w' => e = .returned (.int .i64 d.flush.1) ∧ Own W w' b d.flush.2 :=
  (flush_any h.disk).mono fun e w' ⟨h1, h2, h3⟩ => ⟨h1, h.next h2 h3⟩
theorem own_read (h : Own W w b d) (at_ : Int) :
    Calls Try.prog 16 #[.pointer (some ⟨b, 0, none⟩), .int .i64 at_] w fun e w' => e = .returned (.tuple #[.string ⟨(d.read at_).1.toArray⟩, .int .i64 (d.read at_).2]) ∧ Own W w' b d :=
  (read_any h.disk at_).mono fun e w' ⟨h1, h2⟩ => ⟨h1, h.later h2⟩
theorem own_crash (h : Own W w b d) (bits : Int) (hb0 : 0 ≤ bits) (hb1 : bits ≤ 18446744073709551615) :
    Calls Try.prog 24 #[.pointer (some ⟨b, 0, none⟩), .int .u64 bits] w fun e w' => e = .returned (.tuple #[]) ∧ Own W w' b (d.crash bits) :=
  (crash_any h.disk bits hb0 hb1).mono fun e w' ⟨h1, h2, h3⟩ => ⟨h1, h.next h2 h3⟩
theorem own_start (h : Own W w b d) :
    Calls Try.prog 26 #[.pointer (some ⟨b, 0, none⟩)] w fun e w' => e = .returned (.tuple #[]) ∧ Own W w' b d.start :=
  (start_any h.disk).mono fun e w' ⟨h1, h2, h3⟩ => ⟨h1, h.next h2 (h3.grow (fun k hk => .inl hk) (fun k hk => by
    rcases hk with hk | hk
    · have := hk.2; have := h2.size; omega
    · exact hk.2))⟩
theorem own_arm (h : Own W w b d) (c u : Int) (hc : c ≤ 9223372036854775807) (hb : 0 ≤ u) (hb' : u ≤ 18446744073709551615) :
    Calls Try.prog 22 #[.pointer (some ⟨b, 0, none⟩), .agg #[.int .i64 c, .int .u64 u]] w fun e w' => e = .returned (.tuple #[]) ∧ Own W w' b (d.arm c u) :=
  (arm_any h.disk c u hc hb hb').mono fun e w' ⟨h1, h2, h3⟩ => ⟨h1, h.next h2 h3⟩
end

/-! ### Texts of noughts -/
theorem make_zeros (n : Nat) (hn : n ≤ 4096) (W : World) :
    (Instr.makeSlice 41 (.int .i64 (n : Int)) (.int .i64 (n : Int))).run Try.prog W = .ok (.slice (some ⟨W.heap.size, 0, none⟩) n n) (W.alloc (.cells (Array.replicate n (.int .u8 0)) 5)) := by
  have := run_make_same (P := Try.prog) 41 5 (.int .u8 0) 1 1 (by kernel_rfl) (by kernel_rfl) (by decide) n (by omega) (by omega) W
  simpa using this
theorem conv_zeros (n : Nat) (W : World) :
    (convert 41 9 (.slice (some ⟨W.heap.size, 0, none⟩) n n)).run Try.prog (W.alloc (.cells (Array.replicate n (.int .u8 0)) 5)) = .ok (.string ⟨(List.replicate n (0 : UInt8)).toArray⟩) (W.alloc (.cells (Array.replicate n (.int .u8 0)) 5)) := by
  have := run_convert_bytes_back (P := Try.prog) (W.alloc (.cells (Array.replicate n (.int .u8 0)) 5)) 41 9 5 ⟨W.heap.size, 0, none⟩ n (List.replicate n (0 : UInt8)) (by kernel_rfl) (by kernel_rfl) (by kernel_rfl) (fun j hj => by
    have hj' : j < n := by simpa using hj
    rw [add_at, block_cell (heap_alloc_new _ _), Nat.zero_add, Array.getElem?_eq_getElem (by simpa using hj')]
    simp)
  rwa [List.length_replicate] at this
theorem conv_zeros_at (n : Nat) (W : World) (k : Nat) (h : W.heap[k]? = some (.cells (Array.replicate n (.int .u8 0)) 5 (0, 0))) :
    (convert 41 9 (.slice (some ⟨k, 0, none⟩) n n)).run Try.prog W = .ok (.string ⟨(List.replicate n (0 : UInt8)).toArray⟩) W := by
  have := run_convert_bytes_back (P := Try.prog) W 41 9 5 ⟨k, 0, none⟩ n (List.replicate n (0 : UInt8)) (by kernel_rfl) (by kernel_rfl) (by kernel_rfl) (fun j hj => by
    have hj' : j < n := by simpa using hj
    rw [add_at, block_cell h, Nat.zero_add, Array.getElem?_eq_getElem (by simpa using hj')]
    simp)
  rwa [List.length_replicate] at this
theorem str64 : (Instr.makeSlice 41 (.int .i64 64) (.int .i64 64)).run Try.prog = fun W => .ok (.slice (some ⟨W.heap.size, 0, none⟩) 64 64) (W.alloc (.cells (Array.replicate 64 (.int .u8 0)) 5)) := by
  funext W
  exact make_zeros 64 (by decide) W

/-! ### awake -/
def aw0 : DSt := DSt.new 3
def txt3 : List UInt8 := [48, 49, 50, 51, 52, 53, 54, 55, 56, 57, 97, 98, 99, 100, 101, 102, 103, 104, 105, 106]
def aw1 : DSt := (aw0.write 0 (fillL [97])).2
def aw2 : DSt := (aw1.write 1 (fillL [98])).2
def aw3 : DSt := aw2.crash 1
def aw4 : DSt := aw3.start
def aw5 : DSt := aw4.arm 1 3
def aw6 : DSt := (aw5.write 2 (fillL txt3)).2
def aw7 : DSt := aw6.start
def aw8 : DSt := aw7.flush.2
theorem aw0_w : aw0.write 0 (fillL [97]) = (0, aw1) := by kernel_rfl
theorem aw1_w : aw1.write 1 (fillL [98]) = (0, aw2) := by kernel_rfl
theorem aw2_r : aw2.read 1 = (fillL [98], 0) := by kernel_rfl
theorem aw3_r : aw3.read 0 = ([], 5) := by kernel_rfl
theorem aw5_w : aw5.write 2 (fillL txt3) = (5, aw6) := by kernel_rfl
theorem aw7_k0 : aw7.keptAt 0 = fillL [97] := by kernel_rfl
theorem aw7_k1 : aw7.keptAt 1 = List.replicate 64 0 := by kernel_rfl
theorem aw7_k2 : aw7.keptAt 2 = [48, 49, 50, 51, 52, 53, 54, 55, 56, 57, 97, 98, 99, 100, 101, 102] ++ List.replicate 48 0 := by kernel_rfl
theorem aw7_f : aw7.flush = (0, aw8) := by kernel_rfl
theorem aw8_w3 : aw8.write 3 (fillL []) = (2, aw8) := by kernel_rfl
theorem aw8_w0 : aw8.write 0 [] = (1, aw8) := by kernel_rfl
theorem aw8_len : aw8.kept.length = 3 := by kernel_rfl
theorem aw8_writes : aw8.writes = 3 := by kernel_rfl
theorem aw_f1 : fate 7 0 = 48 := by kernel_rfl
theorem aw_f2 : fate 8 1 = 64 := by kernel_rfl
end Go.Proofs.Ytbdhicjebeoakaa
