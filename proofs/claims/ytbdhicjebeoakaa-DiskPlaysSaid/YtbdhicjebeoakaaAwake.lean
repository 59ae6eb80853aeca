/- lockagelaw03.awake answers true; nothing that was there turns. -/
import Derived.Test.YtbdhicjebeoakaaOwn
set_option linter.unusedVariables false
set_option linter.unusedSimpArgs false
namespace Go.Proofs.Ytbdhicjebeoakaa
open Go.RowKit

/-- A write whose outcome is known. -/
theorem own_write_to {W w : World} {b : Nat} {d d' : DSt} {at_ c : Int} {s : List UInt8} (h : Own W w b d) (hw : d.write at_ s = (c, d')) (hwr : d.writes < 1000000000) :
    Calls Try.prog 13 #[.pointer (some ⟨b, 0, none⟩), .int .i64 at_, .string ⟨s.toArray⟩] w fun e w' => e = .returned (.int .i64 c) ∧ Own W w' b d' := by
  have := own_write h at_ ⟨s.toArray⟩ hwr
  rw [hw] at this
  exact this
theorem own_read_to {W w : World} {b : Nat} {d : DSt} {at_ c : Int} {s : List UInt8} (h : Own W w b d) (hw : d.read at_ = (s, c)) :
    Calls Try.prog 16 #[.pointer (some ⟨b, 0, none⟩), .int .i64 at_] w fun e w' => e = .returned (.tuple #[.string ⟨s.toArray⟩, .int .i64 c]) ∧ Own W w' b d := by
  have := own_read h at_
  rw [hw] at this
  exact this
theorem own_flush_to {W w : World} {b : Nat} {d d' : DSt} {c : Int} (h : Own W w b d) (hw : d.flush = (c, d')) :
    Calls Try.prog 15 #[.pointer (some ⟨b, 0, none⟩)] w fun e w' => e = .returned (.int .i64 c) ∧ Own W w' b d' := by
  have := own_flush h
  rw [hw] at this
  exact this
theorem own_kept_to {W w : World} {b : Nat} {d : DSt} {at_ : Int} {s : List UInt8} (h : Own W w b d) (hw : d.keptAt at_ = s) :
    Calls Try.prog 30 #[.pointer (some ⟨b, 0, none⟩), .int .i64 at_] w fun e w' => e = .returned (.string ⟨s.toArray⟩) ∧ w = w' := by
  have := kept_any h.disk at_
  rw [hw] at this
  exact this
theorem fate_to {bits i : Int} {c : Nat} (w : World) (hb : 0 ≤ bits) (hb2 : bits ≤ 18446744073709551615) (h : fate bits i = c) :
    Calls Try.prog 9 #[.int .u64 bits, .int .i64 i] w fun e w' => e = .returned (.int .i64 c) ∧ w = w' := by
  have := fate_any bits i w hb hb2
  rw [h] at this
  exact this

theorem own_len_to {W w : World} {b n : Nat} {d : DSt} (h : Own W w b d) (hn : d.kept.length = n) :
    Calls Try.prog 29 #[.pointer (some ⟨b, 0, none⟩)] w fun e w' => e = .returned (.int .i64 n) ∧ w = w' := by
  have := len_any h.disk
  rw [hn] at this
  exact this
theorem own_writes_to {W w : World} {b : Nat} {n : Int} {d : DSt} (h : Own W w b d) (hn : d.writes = n) :
    Calls Try.prog 17 #[.pointer (some ⟨b, 0, none⟩)] w fun e w' => e = .returned (.int .i64 n) ∧ w = w' := by
  have := writes_any h.disk
  rw [hn] at this
  exact this
theorem aw8_eq : aw8 = aw7 := by kernel_rfl
theorem aw7_f' : aw7.flush = (0, aw7) := by rw [aw7_f, aw8_eq]
theorem aw7_w3 : aw7.write 3 (fillL []) = (2, aw7) := by kernel_rfl
theorem aw7_w0 : aw7.write 0 [] = (1, aw7) := by kernel_rfl
theorem aw7_len : aw7.kept.length = 3 := by kernel_rfl
theorem aw7_writes : aw7.writes = 3 := by kernel_rfl
def z48 : List UInt8 := List.replicate 48 0
def kt2 : List UInt8 := [48, 49, 50, 51, 52, 53, 54, 55, 56, 57, 97, 98, 99, 100, 101, 102] ++ List.replicate 48 0
theorem aw7_k2' : aw7.keptAt 2 = kt2 := aw7_k2
theorem aw_text : (⟨#[48, 49, 50, 51, 52, 53, 54, 55, 56, 57, 97, 98, 99, 100, 101, 102]⟩ : ByteArray) ++ ⟨z48.toArray⟩ = ⟨kt2.toArray⟩ := by
  apply ba_eq
  rw [ba_append]
  rfl

set_option maxRecDepth 100000 in
set_option maxHeartbeats 4000000 in
theorem awake_any (w : World) : Calls Try.prog 10 #[] w fun e w' => e = .returned (.bool true) ∧ Below w.heap.size w w' := by
  have hF1 := fun W => Lib.hid (fill_any ⟨#[97]⟩ W (by decide))
  have hF2 := fun W => Lib.hid (fill_any ⟨#[98]⟩ W (by decide))
  have hF3 := fun W => Lib.hid (fill_any ⟨#[48, 49, 50, 51, 52, 53, 54, 55, 56, 57, 97, 98, 99, 100, 101, 102, 103, 104, 105, 106]⟩ W (by decide))
  have hF4 := fun W => Lib.hid (fill_any ⟨#[]⟩ W (by decide))
  have mk64 : ∀ W : World, (Instr.makeSlice 41 (.int .i64 64) (.int .i64 64)).run Try.prog W = .ok (.slice (some ⟨W.heap.size, 0, none⟩) 64 64) (W.alloc (.cells (Array.replicate 64 (.int .u8 0)) 5)) := make_zeros 64 (by decide)
  have mk48 : ∀ W : World, (Instr.makeSlice 41 (.int .i64 48) (.int .i64 48)).run Try.prog W = .ok (.slice (some ⟨W.heap.size, 0, none⟩) 48 48) (W.alloc (.cells (Array.replicate 48 (.int .u8 0)) 5)) := make_zeros 48 (by decide)
  go_enter Try.func10, Try.ntmps10
  go_wp2_with fail
  refine (own_new 3 w (by decide) (by decide)).mono ?_
  rintro e w1 ⟨b, rfl, h0⟩
  have H0 : Hid (Own w w1 b aw0) := h0
  clear h0
  go_wp2_with fail
  refine (new_bad 0 _ (.inl (by decide))).mono ?_
  rintro e w' ⟨rfl, rfl⟩
  go_wp2_with (go_at_call 14; refine (hF1 _).out.mono ?_; rintro e w' ⟨rfl, rfl⟩)
  refine (own_write_to H0.out aw0_w (by decide)).mono ?_
  rintro e w2 ⟨rfl, h1⟩
  have H1 := Lib.hid h1
  clear h1 H0
  go_wp2_with (go_at_call 14; refine (hF2 _).out.mono ?_; rintro e w' ⟨rfl, rfl⟩)
  refine (own_write_to H1.out aw1_w (by decide)).mono ?_
  rintro e w3 ⟨rfl, h2⟩
  have H2 := Lib.hid h2
  clear h2 H1
  go_wp2_with fail
  refine (own_read_to H2.out aw2_r).mono ?_
  rintro e w4 ⟨rfl, h3⟩
  have H3 := Lib.hid h3
  clear h3 H2
  go_wp2_with fail
  refine (own_crash H3.out 1 (by decide) (by decide)).mono ?_
  rintro e w5 ⟨rfl, h4⟩
  have H4 : Hid (Own w w5 b aw3) := h4
  clear h4 H3
  go_wp2_with fail
  refine (own_read_to H4.out aw3_r).mono ?_
  rintro e w6 ⟨rfl, h5⟩
  have H5 := Lib.hid h5
  clear h5 H4
  go_wp2_with fail
  refine (own_start H5.out).mono ?_
  rintro e w7 ⟨rfl, h6⟩
  have H6 : Hid (Own w w7 b aw4) := h6
  clear h6 H5
  go_wp2_with fail
  refine (own_arm H6.out 1 3 (by decide) (by decide) (by decide)).mono ?_
  rintro e w8 ⟨rfl, h7⟩
  have H7 : Hid (Own w w8 b aw5) := h7
  clear h7 H6
  go_wp2_with (go_at_call 14; refine (hF3 _).out.mono ?_; rintro e w' ⟨rfl, rfl⟩)
  refine (own_write_to H7.out aw5_w (by decide)).mono ?_
  rintro e w9 ⟨rfl, h8⟩
  have H8 := Lib.hid h8
  clear h8 H7
  go_wp2_with fail
  refine (own_start H8.out).mono ?_
  rintro e w10 ⟨rfl, h9⟩
  have H9 : Hid (Own w w10 b aw7) := h9
  clear h9 H8
  go_wp2_with fail
  have HS : Own w w10 b aw7 := H9.out
  have HS' : Own w w10.drew b aw7 := HS.drew
  clear HS H9
  have HS := HS'
  clear HS'
  refine wp_head_tail 86 [false, false, false, false, false, false, false, false, false, false, false, false, false, false, false, true, false, false, false, false, false, false, false, false, false, false, false, false, false, false, false, false, false, false, true, true, false, false, false, false, false, false, false, false, false, true, true, false, false, false, false, false, false, false, false, false, false, false, true, false, false, false, false, false, false, false, false, false, false, false, false, false, false, false, false, false, false, false, false, false, false, false, false, false, false, false]
    (fun W => Own w W b aw7) (by kernel_rfl) (by kernel_rfl) (fun _ _ d _ _ h => by cases d <;> exact h) HS ?_
  simp only [List.take_succ_cons, List.take_zero, List.drop_succ_cons, List.drop_zero]
  iterate 15 (refine wpHead_step (fun K hK => ?_) HS; go_simp; refine hK _ _ HS ?_; clear hK K)
  refine wpHead_take' (.string ⟨(fillL [98]).toArray⟩) rfl (fun W hW => by go_simp) ?_
  simp only [Act.put, List.setIfInBounds_toArray, List.set_cons_succ, List.set_cons_zero]
  refine wpHead_step (fun K hK => ?_) HS
  go_simp
  refine ((hF2 _).out).mono ?_
  rintro e w' ⟨rfl, rfl⟩
  refine hK _ _ HS ?_
  clear hK K
  iterate 12 (refine wpHead_step (fun K hK => ?_) HS; go_simp; refine hK _ _ HS ?_; clear hK K)
  refine wpHead_step (fun K hK => ?_) HS
  go_simp
  refine (own_kept_to HS aw7_k0).mono ?_
  rintro e w' ⟨rfl, rfl⟩
  refine hK _ _ HS ?_
  clear hK K
  refine wpHead_step (fun K hK => ?_) HS
  go_simp
  refine ((hF1 _).out).mono ?_
  rintro e w' ⟨rfl, rfl⟩
  refine hK _ _ HS ?_
  clear hK K
  iterate 3 (refine wpHead_step (fun K hK => ?_) HS; go_simp; refine hK _ _ HS ?_; clear hK K)
  refine wpHead_take' (.pointer (some ⟨b, 0, none⟩)) rfl (fun W hW => by go_simp) ?_
  simp only [Act.put, List.setIfInBounds_toArray, List.set_cons_succ, List.set_cons_zero]
  refine wpHead_call (.string ⟨(List.replicate 64 (0 : UInt8)).toArray⟩) 30 #[.pointer (some ⟨b, 0, none⟩), .int .i64 1] rfl (fun W => by go_simp) (fun W hW => (own_kept_to hW aw7_k1).mono fun e w'' h => ⟨h.1, h.2.symm⟩) ?_
  simp only [Act.put, List.setIfInBounds_toArray, List.set_cons_succ, List.set_cons_zero]
  have HS2 := HS.alloc (.cells (Array.replicate 64 (.int .u8 0)) 5)
  refine wpHead_step (fun K hK => ?_) HS
  go_simp
  refine hK _ _ HS2 ?_
  clear hK K HS
  have HS := HS2
  clear HS2
  have cvf := conv_zeros_at 64 ((w10.alloc (.cells (Array.replicate 64 (.int .u8 0)) 5)).drew) w10.heap.size (heap_alloc_new w10 _)
  iterate 8 (refine wpHead_step (fun K hK => ?_) HS; go_simp; refine hK _ _ HS ?_; clear hK K)
  refine wpHead_take' (.pointer (some ⟨b, 0, none⟩)) rfl (fun W hW => by go_simp) ?_
  simp only [Act.put, List.setIfInBounds_toArray, List.set_cons_succ, List.set_cons_zero]
  refine wpHead_call (.string ⟨kt2.toArray⟩) 30 #[.pointer (some ⟨b, 0, none⟩), .int .i64 2] rfl (fun W => by go_simp) (fun W hW => (own_kept_to hW aw7_k2').mono fun e w'' h => ⟨h.1, h.2.symm⟩) ?_
  simp only [Act.put, List.setIfInBounds_toArray, List.set_cons_succ, List.set_cons_zero]
  have HS2 := HS.alloc (.cells (Array.replicate 48 (.int .u8 0)) 5)
  refine wpHead_step (fun K hK => ?_) HS
  go_simp
  refine hK _ _ HS2 ?_
  clear hK K HS
  have HS := HS2
  clear HS2 cvf
  have cvh := heap_alloc_new (w10.alloc (.cells (Array.replicate 64 (.int .u8 0)) 5)) (.cells (Array.replicate 48 (.int .u8 0)) 5)
  rw [World.size_alloc] at cvh
  have cvg : (convert 41 9 (.slice (some ⟨w10.heap.size + 1, 0, none⟩) 48 48)).run Try.prog (((w10.alloc (.cells (Array.replicate 64 (.int .u8 0)) 5)).alloc (.cells (Array.replicate 48 (.int .u8 0)) 5)).drew) = .ok (.string ⟨z48.toArray⟩) (((w10.alloc (.cells (Array.replicate 64 (.int .u8 0)) 5)).alloc (.cells (Array.replicate 48 (.int .u8 0)) 5)).drew) := conv_zeros_at 48 _ (w10.heap.size + 1) cvh
  clear cvh
  have tx := aw_text
  iterate 1 (refine wpHead_step (fun K hK => ?_) HS; go_simp; refine hK _ _ HS ?_; clear hK K)
  clear cvg
  iterate 1 (refine wpHead_step (fun K hK => ?_) HS; go_simp; refine hK _ _ HS ?_; clear hK K)
  clear tx
  iterate 4 (refine wpHead_step (fun K hK => ?_) HS; go_simp; refine hK _ _ HS ?_; clear hK K)
  refine wpHead_step (fun K hK => ?_) HS
  go_simp
  refine (own_flush_to HS aw7_f').mono ?_
  rintro e w' ⟨rfl, hN⟩
  refine hK _ _ hN ?_
  clear hK K
  clear HS
  have HS := hN
  clear hN
  iterate 3 (refine wpHead_step (fun K hK => ?_) HS; go_simp; refine hK _ _ HS ?_; clear hK K)
  refine wpHead_take' (.pointer (some ⟨b, 0, none⟩)) rfl (fun W hW => by go_simp) ?_
  simp only [Act.put, List.setIfInBounds_toArray, List.set_cons_succ, List.set_cons_zero]
  refine wpHead_step (fun K hK => ?_) HS
  go_simp
  refine ((hF4 _).out).mono ?_
  rintro e w' ⟨rfl, rfl⟩
  refine hK _ _ HS ?_
  clear hK K
  refine wpHead_step (fun K hK => ?_) HS
  go_simp
  refine (own_write_to HS aw7_w3 (by decide)).mono ?_
  rintro e w' ⟨rfl, hN⟩
  refine hK _ _ hN ?_
  clear hK K
  clear HS
  have HS := hN
  clear hN
  iterate 4 (refine wpHead_step (fun K hK => ?_) HS; go_simp; refine hK _ _ HS ?_; clear hK K)
  refine wpHead_step (fun K hK => ?_) HS
  go_simp
  refine (own_write_to HS aw7_w0 (by decide)).mono ?_
  rintro e w' ⟨rfl, hN⟩
  refine hK _ _ hN ?_
  clear hK K
  clear HS
  have HS := hN
  clear hN
  iterate 3 (refine wpHead_step (fun K hK => ?_) HS; go_simp; refine hK _ _ HS ?_; clear hK K)
  refine wpHead_step (fun K hK => ?_) HS
  go_simp
  refine (fate_to _ (by decide) (by decide) aw_f1).mono ?_
  rintro e w' ⟨rfl, rfl⟩
  refine hK _ _ HS ?_
  clear hK K
  iterate 3 (refine wpHead_step (fun K hK => ?_) HS; go_simp; refine hK _ _ HS ?_; clear hK K)
  refine wpHead_step (fun K hK => ?_) HS
  go_simp
  refine (fate_to _ (by decide) (by decide) aw_f2).mono ?_
  rintro e w' ⟨rfl, rfl⟩
  refine hK _ _ HS ?_
  clear hK K
  iterate 4 (refine wpHead_step (fun K hK => ?_) HS; go_simp; refine hK _ _ HS ?_; clear hK K)
  refine wpHead_step (fun K hK => ?_) HS
  go_simp
  refine (own_len_to HS aw7_len).mono ?_
  rintro e w' ⟨rfl, rfl⟩
  refine hK _ _ HS ?_
  clear hK K
  iterate 4 (refine wpHead_step (fun K hK => ?_) HS; go_simp; refine hK _ _ HS ?_; clear hK K)
  refine wpHead_step (fun K hK => ?_) HS
  go_simp
  refine (own_writes_to HS aw7_writes).mono ?_
  rintro e w' ⟨rfl, rfl⟩
  refine hK _ _ HS ?_
  clear hK K
  iterate 2 (refine wpHead_step (fun K hK => ?_) HS; go_simp; refine hK _ _ HS ?_; clear hK K)
  refine wpHead_nil ?_
  have HB := HS.below
  go_wp2
  go_ret
  exact ⟨rfl, HB⟩
end Go.Proofs.Ytbdhicjebeoakaa
