/- lockagelaw05.awake: the walk. -/
import Derived.Test.YtbdhicjebeoakaaDoorLogM
set_option linter.unusedVariables false
set_option linter.unusedSimpArgs false
namespace Go.Proofs.YtbdhicjebeoakaaDoor
open Go.RowKit

theorem make_zeros5 (n : Nat) (hn : n ≤ 4096) (W : World) :
    (Instr.makeSlice 52 (.int .i64 (n : Int)) (.int .i64 (n : Int))).run Tryd.prog W = .ok (.slice (some ⟨W.heap.size, 0, none⟩) n n) (W.alloc (.cells (Array.replicate n (.int .u8 0)) 5)) := by
  have := run_make_same (P := Tryd.prog) 52 5 (.int .u8 0) 1 1 (by kernel_rfl) (by kernel_rfl) (by decide) n (by omega) (by omega) W
  simpa using this
def aL0 (st : Nat) : LSt := ⟨0, 4, st, 0, 0, [], []⟩
def aL1 (st : Nat) : LSt := ⟨0, 4, st, 1, 1, [65], []⟩
def aL2 (st : Nat) : LSt := ⟨0, 4, st, 1, 2, [65], [[98]]⟩
theorem aspec0 (st : Nat) : (aL0 st).spec [97] [65] = (0, aL1 st) := rfl
theorem aspec1 (st : Nat) : (aL1 st).spec [98] [65, 66] = (0, aL2 st) := rfl
theorem aspec2 (st : Nat) : (aL2 st).spec (List.replicate 114 0) (List.replicate 152 0) = (4, aL2 st) := by
  have h1 : ¬ 2147483646 ≤ (aL2 st).gen := show ¬ 2147483646 ≤ 1 by decide
  have h2 : ¬ (0 < (aL2 st).gen ∧ (aL2 st).at_ + countOf 114 ≤ (aL2 st).half) := show ¬ (0 < 1 ∧ 2 + countOf 114 ≤ 4) by decide
  have h3 : (aL2 st).half < countOf 152 := show 4 < countOf 152 by decide
  unfold LSt.spec
  rw [List.length_replicate, List.length_replicate, if_neg h1, if_neg h2, if_pos h3]
section
variable {T : World → (Nat → Prop) → Prop} {W w : World} {lb db : Nat} {d : DSt} {st : Nat}
theorem aopen0 (h : Own W w db (DSt.new 8)) : Calls Tryd.prog 30 #[.pointer (some ⟨db, 0, none⟩), .int .i64 0, .int .i64 4, .int .u32 1] w fun e w' =>
    ∃ lb, e = .returned (.tuple #[.pointer (some ⟨lb, 0, none⟩), .int .i64 0]) ∧ Duo TNone W w' lb db (aL0 4294967296) (DSt.new 8) :=
  duo_first h 8 0 4 1 rfl (by decide) (by decide) (by decide) (by decide) (by decide)
theorem aopen5 {G : Nat → Prop} (h : IsDisk w G db (DSt.new 8)) : Calls Tryd.prog 30 #[.pointer (some ⟨db, 0, none⟩), .int .i64 0, .int .i64 5, .int .u32 1] w fun e w' => e = .returned (.tuple #[.pointer none, .int .i64 1]) ∧ w' = w :=
  open_arg h 0 5 1 (by decide) (by decide) (by decide)
theorem aapp0 (h : Duo TNone W w lb db (aL0 4294967296) (DSt.new 8)) : Calls Tryd.prog 32 #[.pointer (some ⟨lb, 0, none⟩), .string ⟨#[97]⟩, .string ⟨#[65]⟩] w fun e w' =>
    ∃ st d', e = .returned (.int .i64 0) ∧ Duo TNone W w' lb db (aL1 st) d' ∧ Calm (aL1 st) d' 1 ∧ st ≤ 4294967297 :=
  (duo_append h framed_none (Calm.fresh 8 0 4 4294967296 (by decide) (by decide) (by decide) (by decide)) (by decide) (by decide) [97] [65] (by decide) (by decide)).mono fun e w' ⟨L', d', h1, h2, h3, h4, h5, h6, h7⟩ => by
    have e0 := aspec0 4294967296
    have h4' : L' = aL1 L'.stamp := by rw [h4]; exact congrArg (fun x : Int × LSt => ({ x.2 with stamp := L'.stamp } : LSt)) e0
    refine ⟨L'.stamp, d', h1, ?_, ?_, h6⟩
    · rw [← h4']; exact h2
    · rw [← h4']; exact h3
theorem aapp1 (h : Duo TNone W w lb db (aL1 st) d) (hc : Calm (aL1 st) d 1) (hs : st ≤ 4294967297) : Calls Tryd.prog 32 #[.pointer (some ⟨lb, 0, none⟩), .string ⟨#[98]⟩, .string ⟨#[65, 66]⟩] w fun e w' =>
    ∃ st d', e = .returned (.int .i64 0) ∧ Duo TNone W w' lb db (aL2 st) d' ∧ Calm (aL2 st) d' 2 ∧ st ≤ 4294967298 :=
  (duo_append h framed_none hc (by decide) (by show st + 1 < _; omega) [98] [65, 66] (by decide) (by decide)).mono fun e w' ⟨L', d', h1, h2, h3, h4, h5, h6, h7⟩ => by
    have e0 := aspec1 st
    have h4' : L' = aL2 L'.stamp := by rw [h4]; exact congrArg (fun x : Int × LSt => ({ x.2 with stamp := L'.stamp } : LSt)) e0
    refine ⟨L'.stamp, d', h1, ?_, ?_, by have : L'.stamp ≤ st + 1 := h6; omega⟩
    · rw [← h4']; exact h2
    · rw [← h4']; exact h3
def z114 : List UInt8 := List.replicate 114 0
def z152 : List UInt8 := List.replicate 152 0
theorem conv_z114 (k : Nat) (W : World) (h : W.heap[k]? = some (.cells (Array.replicate 114 (.int .u8 0)) 5 (0, 0))) : (convert 52 9 (.slice (some ⟨k, 0, none⟩) 114 114)).run Tryd.prog W = .ok (.string ⟨z114.toArray⟩) W := conv_zeros_at2 114 W k h
theorem conv_z152 (k : Nat) (W : World) (h : W.heap[k]? = some (.cells (Array.replicate 152 (.int .u8 0)) 5 (0, 0))) : (convert 52 9 (.slice (some ⟨k, 0, none⟩) 152 152)).run Tryd.prog W = .ok (.string ⟨z152.toArray⟩) W := conv_zeros_at2 152 W k h
theorem aapp2 (h : Duo T W w lb db (aL2 st) d) (ht : Framed T) (hc : Calm (aL2 st) d 2) (hs : st ≤ 4294967298) : Calls Tryd.prog 32 #[.pointer (some ⟨lb, 0, none⟩), .string ⟨z114.toArray⟩, .string ⟨z152.toArray⟩] w fun e w' =>
    ∃ st d', e = .returned (.int .i64 4) ∧ Duo T W w' lb db (aL2 st) d' ∧ Calm (aL2 st) d' 3 :=
  (duo_append h ht hc (by decide) (by show st + 1 < _; omega) (List.replicate 114 0) (List.replicate 152 0) (by rw [List.length_replicate]; decide) (by rw [List.length_replicate]; decide)).mono fun e w' ⟨L', d', h1, h2, h3, h4, h5, h6, h7⟩ => by
    have e0 := aspec2 st
    rw [e0] at h1 h4
    have h4' : L' = aL2 L'.stamp := h4
    refine ⟨L'.stamp, d', h1, ?_, ?_⟩
    · rw [← h4']; exact h2
    · rw [← h4']; exact h3
theorem aopen2 (h : Duo TNone W w lb db (aL2 st) d) (hc : Calm (aL2 st) d 2) : Calls Tryd.prog 30 #[.pointer (some ⟨db, 0, none⟩), .int .i64 0, .int .i64 4, .int .u32 2] w fun e w' =>
    ∃ mb, e = .returned (.tuple #[.pointer (some ⟨mb, 0, none⟩), .int .i64 0]) ∧ Below w.heap.size w w' ∧ IsLog w' (Ext (fun _ => False) w w') mb db (aL2 8589934592) := by
  obtain ⟨G, hd⟩ := h.disk
  refine (open_ok hd 0 4 2 (by decide) (by decide) hc.fit (by decide) hc.ok.off).mono ?_
  rintro e w' ⟨mb, rfl, hbl, hl⟩
  rw [show LSt.opened 0 4 2 d = aL2 8589934592 from hc.ok.opened 2] at hl
  exact ⟨mb, rfl, hbl, hl⟩
theorem agen {F : Nat → Prop} (b : Nat) (h : IsLog w F b db (aL2 st)) : Calls Tryd.prog 35 #[.pointer (some ⟨b, 0, none⟩)] w fun e w' => e = .returned (.int .i64 1) ∧ w' = w := gen_any h
theorem agen0 {F : Nat → Prop} (b : Nat) (h : IsLog w F b db (aL0 st)) : Calls Tryd.prog 35 #[.pointer (some ⟨b, 0, none⟩)] w fun e w' => e = .returned (.int .i64 0) ∧ w' = w := gen_any h
theorem abase {F : Nat → Prop} (b : Nat) (h : IsLog w F b db (aL2 st)) : Calls Tryd.prog 33 #[.pointer (some ⟨b, 0, none⟩)] w fun e w' => e = .returned (.string ⟨#[65]⟩) ∧ w' = w := base_any h
theorem aroom {F : Nat → Prop} (b : Nat) (h : IsLog w F b db (aL2 st)) : Calls Tryd.prog 36 #[.pointer (some ⟨b, 0, none⟩)] w fun e w' => e = .returned (.int .i64 2) ∧ Below w.heap.size w w' :=
  room_any h (show 2 ≤ 4 by decide) (show 4 ≤ 1000000 by decide)
theorem aroom0 {F : Nat → Prop} (b : Nat) (h : IsLog w F b db (aL0 st)) : Calls Tryd.prog 36 #[.pointer (some ⟨b, 0, none⟩)] w fun e w' => e = .returned (.int .i64 0) ∧ Below w.heap.size w w' :=
  room_any h (show 0 ≤ 4 by decide) (show 4 ≤ 1000000 by decide)
theorem arecords {F : Nat → Prop} (b : Nat) (h : IsLog w F b db (aL2 st)) : Calls Tryd.prog 34 #[.pointer (some ⟨b, 0, none⟩)] w fun e w' => ∃ g o cap, e = .returned (.slice (some ⟨g, o, none⟩) 1 cap) ∧ w.heap.size ≤ g ∧ w'.cell? ⟨g, o, none⟩ = some (.string ⟨#[98]⟩) ∧ Below w.heap.size w w' := by
  refine (records_any h (show 1 ≤ 1000000000 by decide)).mono ?_
  rintro e w' ⟨v, rfl, ho, hb⟩
  have hlt := ho.lt
  obtain ⟨A, cap, rfl, _, hr⟩ := ho.at
  obtain ⟨g, o, rfl, hc⟩ := hr 0 [98] rfl
  exact ⟨g, o, cap, rfl, (hlt g rfl).1, hc, hb⟩
/-- The second log, its records, and two texts' bytes, beside the first one. -/
def zs5 (n : Nat) : Obj := .cells (Array.replicate n (.int .u8 0)) 5 (0, 0)
def T5 (mb db : Nat) (M : LSt) (g o k1 n1 k2 n2 : Nat) : World → (Nat → Prop) → Prop := fun w E => IsLog w E mb db M ∧ E g ∧ w.cell? ⟨g, o, none⟩ = some (.string ⟨#[98]⟩) ∧ (E k1 ∧ w.heap[k1]? = some (zs5 n1)) ∧ (E k2 ∧ w.heap[k2]? = some (zs5 n2))
theorem framed5 (mb db : Nat) (M : LSt) (g o k1 n1 k2 n2 : Nat) : Framed (T5 mb db M g o k1 n1 k2 n2) := fun w w' E G h hE hf hd =>
  ⟨h.1.frame hf hd, h.2.1, (World.cell?_of_block (hf.block g (hE g h.2.1) (hd g h.2.1))).trans h.2.2.1, ⟨h.2.2.2.1.1, (hf.block _ (hE _ h.2.2.2.1.1) (hd _ h.2.2.2.1.1)).trans h.2.2.2.1.2⟩, h.2.2.2.2.1, (hf.block _ (hE _ h.2.2.2.2.1) (hd _ h.2.2.2.2.1)).trans h.2.2.2.2.2⟩
theorem with5 {mb g o k1 n1 k2 n2 : Nat} {M : LSt} {w0 w1 w2 : World} (h : Duo TNone W w lb db (aL2 st) d) (hb1 : Below w.heap.size w w0) (hm : IsLog w0 (Ext (fun _ => False) w w0) mb db M) (hb2 : Below w0.heap.size w0 w1) (hg : w0.heap.size ≤ g) (hc : w1.cell? ⟨g, o, none⟩ = some (.string ⟨#[98]⟩)) (hb3 : Below w1.heap.size w1 w2)
    (h1 : w1.heap.size ≤ k1) (h1' : w2.heap[k1]? = some (zs5 n1)) (h2 : w1.heap.size ≤ k2) (h2' : w2.heap[k2]? = some (zs5 n2)) :
    Duo (T5 mb db M g o k1 n1 k2 n2) W w2 lb db (aL2 st) d := by
  have hs1 := hb1.size
  have hs2 := hb2.size
  have hs3 := hb3.size
  have hgl := World.block_lt_of_cell? _ _ hc
  have hl1 := block_lt h1'
  have hl2 := block_lt h2'
  refine h.with_ (E := fun k => w.heap.size ≤ k ∧ k < w2.heap.size) (hb1.trans ((hb2.trans (hb3.mono hs2)).mono hs1)) (fun k hk => hk) ⟨((hm.below hb2).below hb3).grow (fun k hk => ?_) (fun k hk => hk.2), ⟨by simp only at hgl; omega, by simp only at hgl; omega⟩, (hb3.cell (p := ⟨g, o, none⟩) hgl).trans hc, ⟨⟨by omega, hl1⟩, h1'⟩, ⟨by omega, hl2⟩, h2'⟩
  rcases hk with hk | hk
  · exact hk.elim
  · exact ⟨hk.1, by omega⟩
theorem asectors (w : World) : Calls Tryd.prog 37 #[.string ⟨#[]⟩] w fun e w' => e = .returned (.int .i64 1) ∧ w' = w := sectors_any ⟨#[]⟩ w (by decide)
end
set_option maxRecDepth 20000 in
set_option maxHeartbeats 4000000 in
theorem awake5_ok (w : World) : Calls Tryd.prog 28 #[] w fun e w' => e = .returned (.bool true) ∧ Below w.heap.size w w' := by
  have mk114 : ∀ W : World, (Instr.makeSlice 52 (.int .i64 114) (.int .i64 114)).run Tryd.prog W = .ok (.slice (some ⟨W.heap.size, 0, none⟩) 114 114) (W.alloc (.cells (Array.replicate 114 (.int .u8 0)) 5)) := make_zeros5 114 (by decide)
  have mk152 : ∀ W : World, (Instr.makeSlice 52 (.int .i64 152) (.int .i64 152)).run Tryd.prog W = .ok (.slice (some ⟨W.heap.size, 0, none⟩) 152 152) (W.alloc (.cells (Array.replicate 152 (.int .u8 0)) 5)) := make_zeros5 152 (by decide)
  go_enter Tryd.func28, Tryd.ntmps28
  go_wp2_with fail
  refine (own_new 8 _ (by decide) (by decide)).mono ?_
  rintro e w1 ⟨db, rfl, h1⟩
  have H1 := Lib.hid h1
  clear h1
  go_wp2_with fail
  refine (aopen0 H1.out).mono ?_
  rintro e w2 ⟨lb, rfl, h2⟩
  have H2 := Lib.hid h2
  clear h2 H1
  go_wp2_with fail
  refine (aopen5 H2.out.disk.choose_spec).mono ?_
  rintro e w' ⟨rfl, rfl⟩
  go_wp2_with fail
  refine (open_nil 0 1 1 _).mono ?_
  rintro e w' ⟨rfl, rfl⟩
  go_wp2_with fail
  refine (agen0 lb H2.out.log.choose_spec).mono ?_
  rintro e w' ⟨rfl, rfl⟩
  go_wp2_with fail
  refine (aroom0 lb H2.out.log.choose_spec).mono ?_
  rintro e w3 ⟨rfl, hb⟩
  have H2 := Lib.hid (H2.out.later framed_none hb)
  clear hb
  go_wp2_with fail
  refine (aapp0 H2.out).mono ?_
  rintro e w4 ⟨st1, d1, rfl, h3, hc3, hs3⟩
  have H3 := Lib.hid h3
  have C3 := Lib.hid hc3
  have S3 := Lib.hid hs3
  clear h3 hc3 hs3 H2
  go_wp2_with fail
  refine (aapp1 H3.out C3.out S3.out).mono ?_
  rintro e w5 ⟨st2, d2, rfl, h4, hc4, hs4⟩
  have H4 := Lib.hid h4
  have C4 := Lib.hid hc4
  have S4 := Lib.hid hs4
  clear h4 hc4 hs4 H3 C3 S3
  go_wp2_with fail
  refine (aopen2 H4.out C4.out).mono ?_
  rintro e w6 ⟨mb, rfl, hb6, hm6⟩
  have HB6 := Lib.hid hb6
  have HM6 := Lib.hid hm6
  clear hb6 hm6
  go_wp2_with fail
  refine (arecords mb HM6.out).mono ?_
  rintro e w7 ⟨g, o, cap, rfl, hg7, hcell, hb7⟩
  have HG7 := Lib.hid hg7
  have HC7 := Lib.hid hcell
  have HB7 := Lib.hid hb7
  clear hg7 hcell hb7
  (try dsimp only); repeat (first | (go_not_at_region 11; first | go_values | go_skip | go_guarded | go_step | go_upon))
  refine wp_head_tr 6 (.take 0 (.two 1 (.take 2 (.one 3 (.take 4 (.one 5 .done)))) 3 (.take 4 (.one 1 (.take 2 (.one 5 .done)))))) (fun _ => True) (by kernel_rfl) (by kernel_rfl) (fun _ _ d _ _ h => by cases d <;> exact h) trivial ?_
  have HB8 := Lib.hid (show Below w7.heap.size w7 w7.drew from (Below.refl _ _).drew)
  generalize w7.drew = c0 at HB8 ⊢
  refine wpTr_take (.pointer (some ⟨lb, 0, none⟩)) rfl (fun W hW => by go_simp) ?_
  simp only [Act.put, List.setIfInBounds_toArray, List.set_cons_succ, List.set_cons_zero]
  refine wpTr_two ?_ ?_
  · refine wpTr_one (fun K hK => ?_)
    refine wpOne_plain rfl ?_
    go_simp
    have hS := heap_alloc_new c0 (.cells (Array.replicate 114 (.int .u8 0)) 5)
    have hb := (Below.refl c0.heap.size c0).alloc (Nat.le_refl _) (.cells (Array.replicate 114 (.int .u8 0)) 5)
    generalize c0.alloc (.cells (Array.replicate 114 (.int .u8 0)) 5) = c1 at hS hb ⊢
    have hrun := conv_z114 c0.heap.size
    refine hK (fun W => W.heap[c0.heap.size]? = some (.cells (Array.replicate 114 (.int .u8 0)) 5 (0, 0))) _ _ (fun _ _ => trivial) hS ?_
    clear hK K
    try simp only [Act.put, List.setIfInBounds_toArray, List.set_cons_succ, List.set_cons_zero]
    refine wpTr_take (.string ⟨z114.toArray⟩) rfl (fun W hW => by have cz2 := hrun W hW; clear hW; go_simp) ?_
    try simp only [Act.put, List.setIfInBounds_toArray, List.set_cons_succ, List.set_cons_zero]
    clear hrun
    refine wpTr_one (fun K hK => ?_)
    refine wpOne_plain rfl ?_
    go_simp
    have hS2 := heap_alloc_new c1 (.cells (Array.replicate 152 (.int .u8 0)) 5)
    have hS1 := (Below.heap_alloc c1 (.cells (Array.replicate 152 (.int .u8 0)) 5) _ (block_lt hS)).trans hS
    have hb2 := hb.alloc hb.size (.cells (Array.replicate 152 (.int .u8 0)) 5)
    generalize c1.alloc (.cells (Array.replicate 152 (.int .u8 0)) 5) = c2 at hS1 hS2 hb2 ⊢
    have hrun2 := conv_z152 c1.heap.size
    refine hK (fun W => W.heap[c0.heap.size]? = some (.cells (Array.replicate 114 (.int .u8 0)) 5 (0, 0)) ∧ W.heap[c1.heap.size]? = some (.cells (Array.replicate 152 (.int .u8 0)) 5 (0, 0))) _ _ (fun _ h => h.1) ⟨hS1, hS2⟩ ?_
    clear hK K
    try simp only [Act.put, List.setIfInBounds_toArray, List.set_cons_succ, List.set_cons_zero]
    refine wpTr_take (.string ⟨z152.toArray⟩) rfl (fun W hW => by have cz2 := hrun2 W hW.2; clear hW; go_simp) ?_
    try simp only [Act.put, List.setIfInBounds_toArray, List.set_cons_succ, List.set_cons_zero]
    have H5 := Lib.hid (with5 H4.out HB6.out HM6.out HB7.out HG7.out HC7.out (HB8.out.trans (hb2.mono HB8.out.size)) HB8.out.size hS1 (Nat.le_trans HB8.out.size hb.size) hS2)
    clear hS hb hS1 hS2 hb2 hrun2 HB6 HM6 HB7 HG7 HC7 HB8
    refine wpTr_one (fun K hK => ?_)
    refine wpOne_plain rfl ?_
    go_simp
    refine (aapp2 H5.out (framed5 _ _ _ _ _ _ _ _ _) C4.out S4.out).mono ?_
    rintro e w8 ⟨st3, d3, rfl, h7, hc7⟩
    have H7 := Lib.hid h7
    clear h7 hc7 H5 H4
    dsimp only
    obtain ⟨E, _, hT⟩ := H7.out.rest
    refine hK _ _ _ (fun _ h => h) ⟨hT.2.2.2.1.2, hT.2.2.2.2.2⟩ ?_
    have HM := Lib.hid hT.1
    have hc := hT.2.2.1
    clear hT
    clear hK K
    try simp only [Act.put, List.setIfInBounds_toArray, List.set_cons_succ, List.set_cons_zero]
    refine wpTr_done ?_
    go_wp2_with fail
    refine (agen mb HM.out).mono ?_
    rintro e w' ⟨rfl, rfl⟩
    go_wp2_with fail
    refine (abase mb HM.out).mono ?_
    rintro e w' ⟨rfl, rfl⟩
    go_wp2_with fail
    refine (aroom mb HM.out).mono ?_
    rintro e w9 ⟨rfl, hb9⟩
    have H7 := Lib.hid (H7.out.later (framed5 _ _ _ _ _ _ _ _ _) hb9)
    clear hb9 hc HM
    go_wp2_with fail
    refine (aroom lb H7.out.log.choose_spec).mono ?_
    rintro e w10 ⟨rfl, hb10⟩
    have H7 := Lib.hid (H7.out.later (framed5 _ _ _ _ _ _ _ _ _) hb10)
    clear hb10
    go_wp2_with fail
    refine (asectors _).mono ?_
    rintro e w' ⟨rfl, rfl⟩
    go_wp2_with fail
    go_ret
    exact ⟨rfl, H7.out.below⟩
  · refine wpTr_one (fun K hK => ?_)
    refine wpOne_plain rfl ?_
    go_simp
    have hS := heap_alloc_new c0 (.cells (Array.replicate 152 (.int .u8 0)) 5)
    have hb := (Below.refl c0.heap.size c0).alloc (Nat.le_refl _) (.cells (Array.replicate 152 (.int .u8 0)) 5)
    generalize c0.alloc (.cells (Array.replicate 152 (.int .u8 0)) 5) = c1 at hS hb ⊢
    have hrun := conv_z152 c0.heap.size
    refine hK (fun W => W.heap[c0.heap.size]? = some (.cells (Array.replicate 152 (.int .u8 0)) 5 (0, 0))) _ _ (fun _ _ => trivial) hS ?_
    clear hK K
    try simp only [Act.put, List.setIfInBounds_toArray, List.set_cons_succ, List.set_cons_zero]
    refine wpTr_take (.string ⟨z152.toArray⟩) rfl (fun W hW => by have cz2 := hrun W hW; clear hW; go_simp) ?_
    try simp only [Act.put, List.setIfInBounds_toArray, List.set_cons_succ, List.set_cons_zero]
    clear hrun
    refine wpTr_one (fun K hK => ?_)
    refine wpOne_plain rfl ?_
    go_simp
    have hS2 := heap_alloc_new c1 (.cells (Array.replicate 114 (.int .u8 0)) 5)
    have hS1 := (Below.heap_alloc c1 (.cells (Array.replicate 114 (.int .u8 0)) 5) _ (block_lt hS)).trans hS
    have hb2 := hb.alloc hb.size (.cells (Array.replicate 114 (.int .u8 0)) 5)
    generalize c1.alloc (.cells (Array.replicate 114 (.int .u8 0)) 5) = c2 at hS1 hS2 hb2 ⊢
    have hrun2 := conv_z114 c1.heap.size
    refine hK (fun W => W.heap[c0.heap.size]? = some (.cells (Array.replicate 152 (.int .u8 0)) 5 (0, 0)) ∧ W.heap[c1.heap.size]? = some (.cells (Array.replicate 114 (.int .u8 0)) 5 (0, 0))) _ _ (fun _ h => h.1) ⟨hS1, hS2⟩ ?_
    clear hK K
    try simp only [Act.put, List.setIfInBounds_toArray, List.set_cons_succ, List.set_cons_zero]
    refine wpTr_take (.string ⟨z114.toArray⟩) rfl (fun W hW => by have cz2 := hrun2 W hW.2; clear hW; go_simp) ?_
    try simp only [Act.put, List.setIfInBounds_toArray, List.set_cons_succ, List.set_cons_zero]
    have H5 := Lib.hid (with5 H4.out HB6.out HM6.out HB7.out HG7.out HC7.out (HB8.out.trans (hb2.mono HB8.out.size)) HB8.out.size hS1 (Nat.le_trans HB8.out.size hb.size) hS2)
    clear hS hb hS1 hS2 hb2 hrun2 HB6 HM6 HB7 HG7 HC7 HB8
    refine wpTr_one (fun K hK => ?_)
    refine wpOne_plain rfl ?_
    go_simp
    refine (aapp2 H5.out (framed5 _ _ _ _ _ _ _ _ _) C4.out S4.out).mono ?_
    rintro e w8 ⟨st3, d3, rfl, h7, hc7⟩
    have H7 := Lib.hid h7
    clear h7 hc7 H5 H4
    dsimp only
    obtain ⟨E, _, hT⟩ := H7.out.rest
    refine hK _ _ _ (fun _ h => h) ⟨hT.2.2.2.1.2, hT.2.2.2.2.2⟩ ?_
    have HM := Lib.hid hT.1
    have hc := hT.2.2.1
    clear hT
    clear hK K
    try simp only [Act.put, List.setIfInBounds_toArray, List.set_cons_succ, List.set_cons_zero]
    refine wpTr_done ?_
    go_wp2_with fail
    refine (agen mb HM.out).mono ?_
    rintro e w' ⟨rfl, rfl⟩
    go_wp2_with fail
    refine (abase mb HM.out).mono ?_
    rintro e w' ⟨rfl, rfl⟩
    go_wp2_with fail
    refine (aroom mb HM.out).mono ?_
    rintro e w9 ⟨rfl, hb9⟩
    have H7 := Lib.hid (H7.out.later (framed5 _ _ _ _ _ _ _ _ _) hb9)
    clear hb9 hc HM
    go_wp2_with fail
    refine (aroom lb H7.out.log.choose_spec).mono ?_
    rintro e w10 ⟨rfl, hb10⟩
    have H7 := Lib.hid (H7.out.later (framed5 _ _ _ _ _ _ _ _ _) hb10)
    clear hb10
    go_wp2_with fail
    refine (asectors _).mono ?_
    rintro e w' ⟨rfl, rfl⟩
    go_wp2_with fail
    go_ret
    exact ⟨rfl, H7.out.below⟩
end Go.Proofs.YtbdhicjebeoakaaDoor
