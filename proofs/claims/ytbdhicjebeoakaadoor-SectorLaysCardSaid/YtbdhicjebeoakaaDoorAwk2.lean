/- lockagelaw04.awake: the walk. -/
import Derived.Test.YtbdhicjebeoakaaDoorAwk
set_option linter.unusedVariables false
set_option linter.unusedSimpArgs false
namespace Go.Proofs.YtbdhicjebeoakaaDoor
open Go.RowKit

def F40 (j : Int) : List UInt8 := if j = 0 then x40 else y40
theorem F40_len (j : Int) : (F40 j).length ≤ 9223372036854775807 := by
  unfold F40
  split
  · exact Nat.le_trans x40_len (by decide)
  · exact Nat.le_trans y40_len (by decide)
theorem str_at {w : World} {v : Value} {l : List (List UInt8)} {A : Option Addr} {n cap : Nat} (h : StrsAt w v l) (hv : v = .slice A n cap) (i : Nat) (s : List UInt8) (hs : l[i]? = some s) :
    ∃ g o, A = some ⟨g, o, none⟩ ∧ w.cell? ⟨g, o + i, none⟩ = some (.string ⟨s.toArray⟩) := by
  obtain ⟨A', cap', rfl, _, hr⟩ := h
  injection hv with h1 h2 h3
  subst h1
  exact hr i s hs
def zer64 : List UInt8 := List.replicate 64 0
theorem zer64_read : readR zer64 = none := zero_read
theorem conv_zer64 (W : World) :
    (convert 52 9 (.slice (some ⟨W.heap.size, 0, none⟩) 64 64)).run Tryd.prog (W.alloc (.cells (Array.replicate 64 (.int .u8 0)) 5)) = .ok (.string ⟨zer64.toArray⟩) (W.alloc (.cells (Array.replicate 64 (.int .u8 0)) 5)) := conv_zeros 64 W
/-- A slice of two texts, written out. -/
theorem two_at {w : World} {v : Value} {x y : List UInt8} {l : List (List UInt8)} (h : StrsAt w v l) (hl : l.length = 2) (h0 : l[0]? = some x) (h1 : l[1]? = some y) :
    ∃ g o cap, v = .slice (some ⟨g, o, none⟩) 2 cap ∧ w.cell? ⟨g, o, none⟩ = some (.string ⟨x.toArray⟩) ∧ w.cell? ⟨g, o + 1, none⟩ = some (.string ⟨y.toArray⟩) := by
  obtain ⟨A, cap, rfl, _, hr⟩ := h
  obtain ⟨g, o, rfl, hc⟩ := hr 0 x h0
  obtain ⟨g', o', e, hc'⟩ := hr 1 y h1
  injection e with e
  injection e with e1 e2
  subst e1
  subst e2
  rw [hl]
  exact ⟨g, o, cap, rfl, hc, hc'⟩
theorem awake1_reads (w : World) (b g o cap : Nat) (hb : w.cell? ⟨b, 0, none⟩ = some (.slice (some ⟨g, o, none⟩) 2 cap)) (h0 : w.cell? ⟨g, o, none⟩ = some (.string ⟨x40.toArray⟩)) (h1 : w.cell? ⟨g, o + 1, none⟩ = some (.string ⟨y40.toArray⟩)) :
    ReadsAs 46 #[.pointer (some ⟨b, 0, none⟩)] F40 0 2 w := by
  intro W j hj0 hj2 hB
  have hbl : b < w.heap.size := World.block_lt_of_cell? _ _ hb
  have hgl : g < w.heap.size := World.block_lt_of_cell? _ _ h0
  have hb' : W.cell? ⟨b, 0, none⟩ = some (.slice (some ⟨g, o, none⟩) 2 cap) := (hB.cell (p := ⟨b, 0, none⟩) hbl).trans hb
  have h0' : W.cell? ⟨g, o, none⟩ = some (.string ⟨x40.toArray⟩) := (hB.cell (p := ⟨g, o, none⟩) hgl).trans h0
  have h1' : W.cell? ⟨g, o + 1, none⟩ = some (.string ⟨y40.toArray⟩) := (hB.cell (p := ⟨g, o + 1, none⟩) hgl).trans h1
  clear hb h0 h1 hB hbl hgl
  rcases (show j = 0 ∨ j = 1 by omega) with rfl | rfl
  · show Calls _ _ #[.int .i64 0, .pointer (some ⟨b, 0, none⟩)] W _
    have e : F40 0 = x40 := rfl
    rw [e]
    have hbit : Go.bits BinOp.and IntKind.i64 0 1 = 0 := by decide +kernel
    clear e
    go_enter Tryd.func46, Tryd.ntmps46
    go_wp2
    go_ret
    exact ⟨rfl, Below.refl _ _⟩
  · show Calls _ _ #[.int .i64 1, .pointer (some ⟨b, 0, none⟩)] W _
    have e : F40 1 = y40 := rfl
    rw [e]
    have hbit : Go.bits BinOp.and IntKind.i64 1 1 = 1 := by decide +kernel
    clear e
    go_enter Tryd.func46, Tryd.ntmps46
    go_wp2
    go_ret
    exact ⟨rfl, Below.refl _ _⟩
theorem awake2_reads (w : World) (b g o cap : Nat) (hb : w.cell? ⟨b, 0, none⟩ = some (.slice (some ⟨g, o, none⟩) 2 cap)) (h0 : w.cell? ⟨g, o, none⟩ = some (.string ⟨x40.toArray⟩)) (h1 : w.cell? ⟨g, o + 1, none⟩ = some (.string ⟨y40.toArray⟩)) :
    ReadsAs 47 #[.pointer (some ⟨b, 0, none⟩)] F40 0 2 w := by
  intro W j hj0 hj2 hB
  have hbl : b < w.heap.size := World.block_lt_of_cell? _ _ hb
  have hgl : g < w.heap.size := World.block_lt_of_cell? _ _ h0
  have hb' : W.cell? ⟨b, 0, none⟩ = some (.slice (some ⟨g, o, none⟩) 2 cap) := (hB.cell (p := ⟨b, 0, none⟩) hbl).trans hb
  have h0' : W.cell? ⟨g, o, none⟩ = some (.string ⟨x40.toArray⟩) := (hB.cell (p := ⟨g, o, none⟩) hgl).trans h0
  have h1' : W.cell? ⟨g, o + 1, none⟩ = some (.string ⟨y40.toArray⟩) := (hB.cell (p := ⟨g, o + 1, none⟩) hgl).trans h1
  clear hb h0 h1 hB hbl hgl
  rcases (show j = 0 ∨ j = 1 by omega) with rfl | rfl
  · show Calls _ _ #[.int .i64 0, .pointer (some ⟨b, 0, none⟩)] W _
    have e : F40 0 = x40 := rfl
    rw [e]
    have hbit : Go.bits BinOp.and IntKind.i64 0 1 = 0 := by decide +kernel
    clear e
    go_enter Tryd.func47, Tryd.ntmps47
    go_wp2
    go_ret
    exact ⟨rfl, Below.refl _ _⟩
  · show Calls _ _ #[.int .i64 1, .pointer (some ⟨b, 0, none⟩)] W _
    have e : F40 1 = y40 := rfl
    rw [e]
    have hbit : Go.bits BinOp.and IntKind.i64 1 1 = 1 := by decide +kernel
    clear e
    go_enter Tryd.func47, Tryd.ntmps47
    go_wp2
    go_ret
    exact ⟨rfl, Below.refl _ _⟩
set_option maxRecDepth 20000 in
theorem lay40 (W : World) : Calls Tryd.prog 19 #[.string ⟨#[48, 49, 50, 51, 52, 53, 54, 55, 56, 57, 48, 49, 50, 51, 52, 53, 54, 55, 56, 57, 48, 49, 50, 51, 52, 53, 54, 55, 56, 57, 48, 49, 50, 51, 52, 53, 54, 55, 56, 57]⟩, .int .u64 7, .int .i64 1, .int .i64 2] W (LayPost W.heap.size L40 (.int .i64 0) W) :=
  lay_ok T40 7 1 2 W (by decide) (by decide) ok40
structure AwM (w W : World) (b1 b3 b5 g o cap : Nat) : Prop where
  below : Below w.heap.size w W
  h1 : W.heap[b1]? = some (.cells #[.slice (some ⟨g, o, none⟩) 2 cap] 41 (0, 0))
  h3 : W.heap[b3]? = some (.cells z6 24 (0, 0))
  h5 : W.heap[b5]? = some (.cells (pcV q40) 24 (0, 0))
  c0 : W.cell? ⟨g, o, none⟩ = some (.string ⟨x40.toArray⟩)
  c1 : W.cell? ⟨g, o + 1, none⟩ = some (.string ⟨y40.toArray⟩)
theorem AwM.on {w W W' : World} {b1 b3 b5 g o cap : Nat} (h : AwM w W b1 b3 b5 g o cap) (hb : Below W.heap.size W W') : AwM w W' b1 b3 b5 g o cap :=
  ⟨h.below.trans (hb.mono h.below.size), (hb.block _ (block_lt h.h1)).trans h.h1, (hb.block _ (block_lt h.h3)).trans h.h3, (hb.block _ (block_lt h.h5)).trans h.h5,
    (hb.cell (p := ⟨g, o, none⟩) (World.block_lt_of_cell? _ _ h.c0)).trans h.c0, (hb.cell (p := ⟨g, o + 1, none⟩) (World.block_lt_of_cell? _ _ h.c1)).trans h.c1⟩
set_option maxRecDepth 100000 in
set_option maxHeartbeats 4000000 in
theorem awake_ok (w : World) : Calls Tryd.prog 11 #[] w fun e w' => e = .returned (.bool true) ∧ Below w.heap.size w w' := by
  have mk64 : ∀ W : World, (Instr.makeSlice 52 (.int .i64 64) (.int .i64 64)).run Tryd.prog W = .ok (.slice (some ⟨W.heap.size, 0, none⟩) 64 64) (W.alloc (.cells (Array.replicate 64 (.int .u8 0)) 5)) := make_zeros 64 (by decide)
  have HLAY := fun W => Lib.hid (lay40 W)
  go_enter Tryd.func11, Tryd.ntmps11
  go_wp2_with fail
  refine (HLAY _).out.mono ?_
  rintro e w1 ⟨v, rfl, hown, hB1⟩
  obtain ⟨g, o, cap, rfl, hc0, hc1⟩ := two_at hown.at L40_length L40_0 L40_1
  have C0 := Lib.hid hc0
  have C1 := Lib.hid hc1
  have HB1 := Lib.hid hB1
  clear hown hc0 hc1 hB1
  go_upto_region 2 with (fail)
  have cv64 := conv_zer64 (w1.alloc (.cells #[.slice (some ⟨g, o, none⟩) 2 cap] 41))
  rw [World.size_alloc] at cv64
  go_wp2_with fail
  have hb2 : Below w1.heap.size w1 ((w1.alloc (.cells #[.slice (some ⟨g, o, none⟩) 2 cap] 41)).alloc (.cells (Array.replicate 64 (.int .u8 0)) 5)) := ((Below.refl _ _).alloc (Nat.le_refl _) _).alloc (by simp) _
  have hbx : ((w1.alloc (.cells #[.slice (some ⟨g, o, none⟩) 2 cap] 41)).alloc (.cells (Array.replicate 64 (.int .u8 0)) 5)).heap[w1.heap.size]? = some (.cells #[.slice (some ⟨g, o, none⟩) 2 cap] 41 (0, 0)) :=
    (Below.heap_alloc _ _ _ (by simp)).trans (heap_alloc_new w1 _)
  clear cv64
  refine (sread_any zer64 _ (by decide)).mono ?_
  rintro e w2 ⟨rfl, hb3⟩
  rw [zer64_read]
  have H1 := Lib.hid ((hb3.block _ (block_lt hbx)).trans hbx)
  have hb4 := hb2.trans (hb3.mono hb2.size)
  have C0 := Lib.hid ((hb4.cell (p := ⟨g, o, none⟩) (World.block_lt_of_cell? _ _ C0.out)).trans C0.out)
  have C1 := Lib.hid ((hb4.cell (p := ⟨g, o + 1, none⟩) (World.block_lt_of_cell? _ _ C1.out)).trans C1.out)
  have HB := Lib.hid (HB1.out.trans (hb4.mono HB1.out.size))
  generalize w1.heap.size = b1 at H1 ⊢
  clear hb2 hbx hb3 hb4 HB1
  simp only [Option.getD_none, Option.isSome_none, Bool.false_eq_true, if_false, pcV, Pc.zero]
  go_upto_region 3 with (fail)
  have h3 := heap_alloc_new w2 (.cells z6 24)
  have hb2 : Below w2.heap.size w2 (w2.alloc (.cells z6 24)) := (Below.refl _ _).alloc (Nat.le_refl _) _
  change Code.wp _ _ _ _ (w2.alloc (.cells z6 24))
  generalize w2.alloc (.cells z6 24) = w3 at h3 hb2 ⊢
  have H1 := Lib.hid ((hb2.block _ (block_lt H1.out)).trans H1.out)
  have hc0 := (hb2.cell (p := ⟨g, o, none⟩) (World.block_lt_of_cell? _ _ C0.out)).trans C0.out
  have hc1 := (hb2.cell (p := ⟨g, o + 1, none⟩) (World.block_lt_of_cell? _ _ C1.out)).trans C1.out
  have HB := Lib.hid (HB.out.trans (hb2.mono HB.out.size))
  generalize w2.heap.size = b3 at h3 ⊢
  have H3 := Lib.hid h3
  have k1 : w3.cell? ⟨b1, 0, none⟩ = some (.slice (some ⟨g, o, none⟩) 2 cap) := block_cell H1.out 0
  clear h3 hb2 C0 C1
  go_wp2_with fail
  refine (sread_any y40 _ (Nat.le_trans y40_len (by decide))).mono ?_
  rintro e w4 ⟨rfl, hb4⟩
  rw [y40_read]
  have C0 := Lib.hid ((hb4.cell (p := ⟨g, o, none⟩) (World.block_lt_of_cell? _ _ hc0)).trans hc0)
  have C1 := Lib.hid ((hb4.cell (p := ⟨g, o + 1, none⟩) (World.block_lt_of_cell? _ _ hc1)).trans hc1)
  have H1 := Lib.hid ((hb4.block _ (block_lt H1.out)).trans H1.out)
  have H3 := Lib.hid ((hb4.block _ (block_lt H3.out)).trans H3.out)
  have HB := Lib.hid (HB.out.trans (hb4.mono HB.out.size))
  clear hc0 hc1 k1 hb4
  simp only [Option.getD_some, Option.isSome_some, if_true, pcV, q40]
  go_upto_region 6 with (fail)
  have h5 := heap_alloc_new w4 (.cells (pcV q40) 24)
  have hb5 : Below w4.heap.size w4 (w4.alloc (.cells (pcV q40) 24)) := (Below.refl _ _).alloc (Nat.le_refl _) _
  have hm : AwM w (w4.alloc (.cells (pcV q40) 24)) b1 b3 w4.heap.size g o cap :=
    ⟨HB.out.trans (hb5.mono HB.out.size), (hb5.block _ (block_lt H1.out)).trans H1.out, (hb5.block _ (block_lt H3.out)).trans H3.out, h5,
      (hb5.cell (p := ⟨g, o, none⟩) (World.block_lt_of_cell? _ _ C0.out)).trans C0.out, (hb5.cell (p := ⟨g, o + 1, none⟩) (World.block_lt_of_cell? _ _ C1.out)).trans C1.out⟩
  change Code.wp _ _ _ _ (w4.alloc (.cells (pcV q40) 24))
  generalize w4.alloc (.cells (pcV q40) 24) = w5 at hm ⊢
  clear h5 hb5 C0 C1 HB H1 H3
  generalize w4.heap.size = b5 at hm ⊢
  have HM := Lib.hid hm
  clear hm
  have eg1 : ∀ args w, (callFunc 46 args).run Tryd.prog w = .ok (.enter 46 args) w := enters_of Tryd.func46 (by kernel_rfl) rfl
  have eg2 : ∀ args w, (callFunc 47 args).run Tryd.prog w = .ok (.enter 47 args) w := enters_of Tryd.func47 (by kernel_rfl) rfl
  have hn1 : ∀ W, AwM w W b1 b3 b5 g o cap → Hid (Calls Tryd.prog 24 #[.func (.func 46) #[] #[.pointer (some ⟨b1, 0, none⟩)], .int .i64 0, .int .i64 2, .int .i64 1, .int .i64 2] W fun e w' => e = .returned (.tuple #[.string ⟨T40.toArray⟩, .int .i64 2, .bool true]) ∧ Below W.heap.size W w') := fun W h => by
    have := next_any 46 #[.pointer (some ⟨b1, 0, none⟩)] F40 0 2 1 2 W eg1 (awake1_reads W b1 g o cap (block_cell h.h1 0) h.c0 h.c1) (fun j _ _ => F40_len j) (by decide) (by decide)
    rw [next40 F40 rfl rfl] at this
    exact Lib.hid this
  have hn2 : ∀ W, AwM w W b1 b3 b5 g o cap → Hid (Calls Tryd.prog 24 #[.func (.func 47) #[] #[.pointer (some ⟨b1, 0, none⟩)], .int .i64 0, .int .i64 2, .int .i64 1, .int .i64 3] W fun e w' => e = .returned (.tuple #[.string ⟨#[]⟩, .int .i64 0, .bool false]) ∧ Below W.heap.size W w') := fun W h => by
    have := next_any 47 #[.pointer (some ⟨b1, 0, none⟩)] F40 0 2 1 3 W eg2 (awake2_reads W b1 g o cap (block_cell h.h1 0) h.c0 h.c1) (fun j _ _ => F40_len j) (by decide) (by decide)
    rw [next40n F40 rfl rfl] at this
    exact Lib.hid this
  have HN1 := Lib.hid hn1
  have HN2 := Lib.hid hn2
  clear hn1 hn2
  go_wp2_with fail
  refine (HN1.out _ HM.out).out.mono ?_
  rintro e w6 ⟨rfl, hb6⟩
  have HM := Lib.hid (HM.out.on hb6)
  clear hb6
  go_wp2_with fail
  refine (HN2.out _ HM.out).out.mono ?_
  rintro e w7 ⟨rfl, hb7⟩
  have HM := Lib.hid (HM.out.on hb7)
  clear hb7
  have kk := block_cell HM.out.h5
  have k0 : w7.cell? ⟨b5, 0, none⟩ = some (.int .u64 7) := kk 0
  have k1 : w7.cell? ⟨b5, 1, none⟩ = some (.int .i64 1) := kk 1
  have k2 : w7.cell? ⟨b5, 2, none⟩ = some (.int .i64 2) := kk 2
  have k3 : w7.cell? ⟨b5, 3, none⟩ = some (.int .i64 1) := kk 3
  have k4 : w7.cell? ⟨b5, 4, none⟩ = some (.int .i64 2) := kk 4
  have k5 : w7.cell? ⟨b5, 5, none⟩ = some (.string ⟨#[55, 56, 57]⟩) := kk 5
  clear kk
  go_wp2_with fail
  have hp : Calls Tryd.prog 12 #[.agg #[.int .u64 7, .int .i64 1, .int .i64 2, .int .i64 1, .int .i64 2, .string ⟨#[55, 56, 57]⟩]] w7 fun e w' => e = .returned (.tuple #[.string ⟨y40.toArray⟩, .int .i64 0]) ∧ Below w7.heap.size w7 w' := by
    rw [y40_print]
    exact print_ok 7 1 2 1 2 [55, 56, 57] w7 q40_right (by decide)
  refine hp.mono ?_
  rintro e w8 ⟨rfl, hb8⟩
  have HM := Lib.hid (HM.out.on hb8)
  clear hb8 hp k0 k1 k2 k3 k4 k5
  go_wp2_with fail
  have hp : Calls Tryd.prog 12 #[.agg #[.int .u64 0, .int .i64 0, .int .i64 0, .int .i64 0, .int .i64 0, .string ⟨#[]⟩]] w8 fun e w' => e = .returned (.tuple #[.string ⟨#[]⟩, .int .i64 1]) ∧ Below w8.heap.size w8 w' :=
    print_bad 0 0 0 0 0 [] w8 (by decide) (by decide)
  refine hp.mono ?_
  rintro e w9 ⟨rfl, hb9⟩
  have HM := Lib.hid (HM.out.on hb9)
  clear hb9 hp
  go_upto_region 10 with (fail)
  have hc38 : ∀ W, Calls Tryd.prog 22 #[.int .i64 38] W fun e w' => e = .returned (.int .i64 2) ∧ W = w' := fun W => count_any 38 W (by decide) (by decide)
  have hc0 : ∀ W, Calls Tryd.prog 22 #[.int .i64 0] W fun e w' => e = .returned (.int .i64 1) ∧ W = w' := fun W => count_any 0 W (by decide) (by decide)
  have hrt : ∀ W, Calls Tryd.prog 15 #[.agg #[.int .u64 7, .int .i64 1, .int .i64 2, .int .i64 1, .int .i64 2, .string ⟨#[55, 56, 57]⟩]] W fun e w' => e = .returned (.bool true) ∧ Below W.heap.size W w' := fun W => right_any 7 1 2 1 2 [55, 56, 57] W (by decide)
  have H38 := fun W => Lib.hid (hc38 W)
  have H0 := fun W => Lib.hid (hc0 W)
  have HRT := fun W => Lib.hid (hrt W)
  clear hc38 hc0 hrt
  have ht40 : ((⟨T40.toArray⟩ : ByteArray).toList == (⟨#[48, 49, 50, 51, 52, 53, 54, 55, 56, 57, 48, 49, 50, 51, 52, 53, 54, 55, 56, 57, 48, 49, 50, 51, 52, 53, 54, 55, 56, 57, 48, 49, 50, 51, 52, 53, 54, 55, 56, 57]⟩ : ByteArray).toList) = true := beq_self_eq_true _
  have k1 : w9.cell? ⟨b1, 0, none⟩ = some (.slice (some ⟨g, o, none⟩) 2 cap) := block_cell HM.out.h1 0
  have k34 : w9.cell? ⟨b3, 4, none⟩ = some (.int .i64 0) := block_cell HM.out.h3 4
  have k50 : w9.cell? ⟨b5, 0, none⟩ = some (.int .u64 7) := block_cell HM.out.h5 0
  have k51 : w9.cell? ⟨b5, 1, none⟩ = some (.int .i64 1) := block_cell HM.out.h5 1
  have k52 : w9.cell? ⟨b5, 2, none⟩ = some (.int .i64 2) := block_cell HM.out.h5 2
  have k53 : w9.cell? ⟨b5, 3, none⟩ = some (.int .i64 1) := block_cell HM.out.h5 3
  have k54 : w9.cell? ⟨b5, 4, none⟩ = some (.int .i64 2) := block_cell HM.out.h5 4
  have k55 : w9.cell? ⟨b5, 5, none⟩ = some (.string ⟨#[55, 56, 57]⟩) := block_cell HM.out.h5 5
  have kc1 : w9.cell? ⟨g, o + 1, none⟩ = some (.string ⟨y40.toArray⟩) := HM.out.c1
  go_wp2_with fail
  refine (H38 _).out.mono ?_
  rintro e w' ⟨rfl, rfl⟩
  go_wp2_with fail
  refine (H0 _).out.mono ?_
  rintro e w' ⟨rfl, rfl⟩
  go_wp2_with fail
  refine (HRT _).out.mono ?_
  rintro e w10 ⟨rfl, hb10⟩
  go_wp2_with fail
  go_ret
  exact ⟨rfl, HM.out.below.trans (hb10.mono HM.out.below.size)⟩
end Go.Proofs.YtbdhicjebeoakaaDoor
