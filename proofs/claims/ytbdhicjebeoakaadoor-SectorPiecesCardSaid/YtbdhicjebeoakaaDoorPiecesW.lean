/- lockagelaw04.SectorPieces: the walk. -/
import Derived.Test.YtbdhicjebeoakaaDoorTornW
import Derived.Test.YtbdhicjebeoakaaDoorOrd
set_option linter.unusedVariables false
set_option linter.unusedSimpArgs false
namespace Go.Proofs.YtbdhicjebeoakaaDoor
open Go.RowKit

structure PcM (w W : World) (a : Pc) : Prop where
  below : Below w.heap.size w W
  ha : W.heap[w.heap.size]? = some (.cells (pcV a) 24 (0, 0))
theorem PcM.on {w W W' : World} {a : Pc} (h : PcM w W a) (hb : Below W.heap.size W W') : PcM w W' a :=
  ⟨h.below.trans (hb.mono h.below.size), (hb.block _ (block_lt h.ha)).trans h.ha⟩
theorem rprint_any (a : Pc) (w : World) (hr : a.right = true) (hs : a.stamp < 18446744073709551616) :
    Calls Tryd.prog 16 #[.agg (pcV a)] w fun e w' => e = .returned (.string ⟨a.print.toArray⟩) ∧ Below w.heap.size w w' := by
  obtain ⟨st, ge, no, ix, to, da⟩ := a
  have h := (Pc.right_iff _).1 hr
  simp only at h
  obtain ⟨ge, rfl⟩ := Int.eq_ofNat_of_zero_le h.1
  obtain ⟨no, rfl⟩ := Int.eq_ofNat_of_zero_le (show 0 ≤ no by omega)
  obtain ⟨ix, rfl⟩ := Int.eq_ofNat_of_zero_le (show 0 ≤ ix by omega)
  obtain ⟨to, rfl⟩ := Int.eq_ofNat_of_zero_le (show 0 ≤ to by omega)
  exact rprint_ok st ge no ix to da w hr hs
theorem right_pc (a : Pc) (w : World) (h : a.data.length ≤ 9223372036854775807) {b : Bool} (hb : a.right = b) : Calls Tryd.prog 15 #[.agg (pcV a)] w fun e w' => e = .returned (.bool b) ∧ Below w.heap.size w w' := by
  subst hb; exact right_any a.stamp a.gen a.no a.index a.total a.data w h
theorem rright_pc (a : Pc) (w : World) (h : a.data.length ≤ 9223372036854775807) {b : Bool} (hb : a.right = b) : Calls Tryd.prog 13 #[.agg (pcV a)] w fun e w' => e = .returned (.bool b) ∧ Below w.heap.size w w' := by
  subst hb; exact rright_any a.stamp a.gen a.no a.index a.total a.data w h
/-- What follows the first half, whatever the piece: the bytes s read by both. -/
def ReadBoth (s : List UInt8) : Prop := True
set_option maxRecDepth 100000 in
set_option maxHeartbeats 4000000 in
theorem pieces_walk (a : Pc) (s : List UInt8) (w : World) (ha : a.Ok) (hs : s.length ≤ 9223372036854775807) :
    Calls Tryd.prog 3 #[.agg (pcV a), .string ⟨s.toArray⟩] w fun e w' => e = .returned (.bool true) ∧ Below w.heap.size w w' := by
  have hm0 : PcM w (w.alloc (.cells (pcV a) 24)) a := ⟨(Below.refl _ _).alloc (Nat.le_refl _) _, heap_alloc_new w _⟩
  obtain ⟨st, ge, no, ix, to, da⟩ := a
  obtain ⟨hst, hda⟩ := ha
  simp only at hst hda
  simp only [pcV]
  have hsz : (⟨s.toArray⟩ : ByteArray).size = s.length := by simp [ByteArray.size]
  have hdz : (⟨da.toArray⟩ : ByteArray).size = da.length := by simp [ByteArray.size]
  have HAW := fun W => Lib.hid (awake_ok W)
  have HM := Lib.hid hm0
  clear hm0
  go_enter Tryd.func3, Tryd.ntmps3
  go_wp2_with fail
  refine (HAW _).out.mono ?_
  rintro e w1 ⟨rfl, hb1⟩
  have HM := Lib.hid (HM.out.on hb1)
  clear hb1

  by_cases h300 : (300 : Int) < (s.length : Int)
  case pos =>
    obtain ⟨k0, k1, k2, k3, k4, k5⟩ := cells6 HM.out.ha
    try dsimp only
    repeat (first | go_values | go_skip | go_guarded | go_step | go_upon)
    clear k0 k1 k2 k3 k4 k5
    refine (HAW _).out.mono ?_
    rintro e w2 ⟨rfl, hb2⟩
    have HM := Lib.hid (HM.out.on hb2)
    clear hb2
    try dsimp only
    repeat (first | go_values | go_skip | go_guarded | go_step | go_upon)
    go_ret
    exact ⟨rfl, HM.out.below⟩
  by_cases h301 : (300 : Int) < (da.length : Int)
  case pos =>
    obtain ⟨k0, k1, k2, k3, k4, k5⟩ := cells6 HM.out.ha
    try dsimp only
    repeat (first | go_values | go_skip | go_guarded | go_step | go_upon)
    clear k0 k1 k2 k3 k4 k5
    refine (HAW _).out.mono ?_
    rintro e w2 ⟨rfl, hb2⟩
    have HM := Lib.hid (HM.out.on hb2)
    clear hb2
    try dsimp only
    repeat (first | go_values | go_skip | go_guarded | go_step | go_upon)
    go_ret
    exact ⟨rfl, HM.out.below⟩
  rcases hr : Pc.right ⟨st, ge, no, ix, to, da⟩ with _ | _
  case false =>
    have HR := Lib.hid hr
    clear hr
    obtain ⟨k0, k1, k2, k3, k4, k5⟩ := cells6 HM.out.ha
    try dsimp only
    repeat (first | go_values | go_skip | go_guarded | go_step | go_upon)
    clear k0 k1 k2 k3 k4 k5
    refine (print_bad st ge no ix to da _ (by omega) HR.out).mono ?_
    rintro e w2 ⟨rfl, hb2⟩
    have HM := Lib.hid (HM.out.on hb2)
    clear hb2
    try simp only [pcV]
    obtain ⟨k0, k1, k2, k3, k4, k5⟩ := cells6 HM.out.ha
    try dsimp only
    repeat (first | go_values | go_skip | go_guarded | go_step | go_upon)
    clear k0 k1 k2 k3 k4 k5
    refine (like_any ⟨st, ge, no, ix, to, da⟩ _).mono ?_
    rintro e w3 ⟨rfl, hb3⟩
    have HM := Lib.hid (HM.out.on hb3)
    clear hb3
    try simp only [pcV]
    obtain ⟨k0, k1, k2, k3, k4, k5⟩ := cells6 HM.out.ha
    try dsimp only
    repeat (first | go_values | go_skip | go_guarded | go_step | go_upon)
    clear k0 k1 k2 k3 k4 k5
    refine (rright_pc ⟨st, ge, no, ix, to, da⟩ _ (by simp only; omega) HR.out).mono ?_
    rintro e w4 ⟨rfl, hb4⟩
    have HM := Lib.hid (HM.out.on hb4)
    clear hb4
    try simp only [pcV]
    obtain ⟨k0, k1, k2, k3, k4, k5⟩ := cells6 HM.out.ha
    try dsimp only
    repeat (first | go_values | go_skip | go_guarded | go_step | go_upon)
    clear k0 k1 k2 k3 k4 k5
    refine (right_pc ⟨st, ge, no, ix, to, da⟩ _ (by simp only; omega) HR.out).mono ?_
    rintro e w5 ⟨rfl, hb5⟩
    have HM := Lib.hid (HM.out.on hb5)
    clear hb5
    try simp only [pcV]
    try dsimp only
    repeat (first | (go_not_at_region 11; first | go_values | go_skip | go_guarded | go_step | go_upon))
    obtain ⟨q, hq⟩ : ∃ q, q = (readR s).getD Pc.zero := ⟨_, rfl⟩
    have hS := fun W => Lib.hid (sread_any s W hs)
    have hT := fun W => Lib.hid (rread_any s W hs)
    simp only [← hq] at hS hT
    obtain ⟨qst, qge, qno, qix, qto, qda⟩ := q
    have HQ := Lib.hid hq
    have hqq : ((⟨qda.toArray⟩ : ByteArray).toList == (⟨qda.toArray⟩ : ByteArray).toList) = true := beq_self_eq_true _
    clear hq
    rcases hi : (readR s).isSome with _ | _
    · skip
      simp only [hi, if_true, if_false, Bool.false_eq_true, pcV] at hS hT
      have HI := Lib.hid hi
      clear hi
      repeat (first | go_values | go_skip | go_guarded | go_step | go_upon)
      refine (hS _).out.mono ?_
      rintro e v1 ⟨rfl, hb1⟩
      have HM := Lib.hid (HM.out.on hb1)
      clear hb1
      try dsimp only
      repeat (first | (go_not_at_region 12; first | go_values | go_skip | go_guarded | go_step | go_upon))
      have h10 := heap_alloc_new v1 (.cells #[.int .u64 (qst : Int), .int .i64 qge, .int .i64 qno, .int .i64 qix, .int .i64 qto, .string ⟨qda.toArray⟩] 24)
      have HM := Lib.hid (HM.out.on ((Below.refl v1.heap.size v1).alloc (Nat.le_refl _) (.cells #[.int .u64 (qst : Int), .int .i64 qge, .int .i64 qno, .int .i64 qix, .int .i64 qto, .string ⟨qda.toArray⟩] 24)))
      generalize v1.alloc (.cells #[.int .u64 (qst : Int), .int .i64 qge, .int .i64 qno, .int .i64 qix, .int .i64 qto, .string ⟨qda.toArray⟩] 24) = v2 at HM h10 ⊢
      generalize v1.heap.size = b10 at h10 ⊢
      have H10 := Lib.hid h10
      clear h10
      repeat (first | go_values | go_skip | go_guarded | go_step | go_upon)
      refine (hT _).out.mono ?_
      rintro e v3 ⟨rfl, hb3⟩
      have H10 := Lib.hid ((hb3.block _ (block_lt H10.out)).trans H10.out)
      have HM := Lib.hid (HM.out.on hb3)
      clear hb3
      try dsimp only
      repeat (first | (go_not_at_region 13; first | go_values | go_skip | go_guarded | go_step | go_upon))
      have h12 := heap_alloc_new v3 (.cells #[.int .u64 (qst : Int), .int .i64 qge, .int .i64 qno, .int .i64 qix, .int .i64 qto, .string ⟨qda.toArray⟩] 30)
      have hb4 := (Below.refl v3.heap.size v3).alloc (Nat.le_refl _) (.cells #[.int .u64 (qst : Int), .int .i64 qge, .int .i64 qno, .int .i64 qix, .int .i64 qto, .string ⟨qda.toArray⟩] 30)
      generalize v3.alloc (.cells #[.int .u64 (qst : Int), .int .i64 qge, .int .i64 qno, .int .i64 qix, .int .i64 qto, .string ⟨qda.toArray⟩] 30) = v4 at hb4 h12 ⊢
      have HM := Lib.hid (HM.out.on hb4)
      have HS : v4.drew.heap[b10]? = some (.cells (pcV ⟨qst, qge, qno, qix, qto, qda⟩) 24 (0, 0)) ∧ v4.drew.heap[v3.heap.size]? = some (.cells (pcV ⟨qst, qge, qno, qix, qto, qda⟩) 30 (0, 0)) := ⟨(hb4.block _ (block_lt H10.out)).trans H10.out, h12⟩
      clear hb4 h12
      generalize v3.heap.size = b12 at HS ⊢
      have HM : Hid (PcM w v4.drew ⟨st, ge, no, ix, to, da⟩) := Lib.hid (HM.out.on (Below.refl _ _).drew)
      refine wp_head_ord 17 [0, 2, 1, 3, 4, 5, 6, 7, 8, 9, 10, 11, 12, 13, 14, 15, 16] [true, true, false, false, false, true, true, false, false, false, false, false, false, false, false, false, false] (fun W => W.heap[b10]? = some (.cells (pcV ⟨qst, qge, qno, qix, qto, qda⟩) 24 (0, 0)) ∧ W.heap[b12]? = some (.cells (pcV ⟨qst, qge, qno, qix, qto, qda⟩) 30 (0, 0))) (by kernel_rfl) (by kernel_rfl) (fun _ _ d _ _ h => by cases d <;> exact h) HS ?_
      simp only [List.map_cons, List.map_nil, List.getD_cons_succ, List.getD_cons_zero, List.drop_succ_cons, List.drop_zero]
      generalize v4.drew = v5 at HM HS ⊢
      refine wpHead_take (.agg #[.int .u64 (qst : Int), .int .i64 qge, .int .i64 qno, .int .i64 qix, .int .i64 qto, .string ⟨qda.toArray⟩]) rfl (fun W hW => by obtain ⟨k0, k1, k2, k3, k4, k5⟩ := cells6 hW.1; clear hW; go_simp) ?_
      try simp only [Act.put, List.setIfInBounds_toArray, List.set_cons_succ, List.set_cons_zero]
      refine wpHead_take (.agg #[.int .u64 (qst : Int), .int .i64 qge, .int .i64 qno, .int .i64 qix, .int .i64 qto, .string ⟨qda.toArray⟩]) rfl (fun W hW => by obtain ⟨k0, k1, k2, k3, k4, k5⟩ := cells6 hW.2; clear hW; go_simp) ?_
      try simp only [Act.put, List.setIfInBounds_toArray, List.set_cons_succ, List.set_cons_zero]
      refine wpHead_step (fun K hK => ?_) HS
      go_simp
      refine (like_any ⟨qst, qge, qno, qix, qto, qda⟩ _).mono ?_
      rintro e v6 ⟨rfl, hb6⟩
      have HS' := And.intro ((hb6.block _ (block_lt HS.1)).trans HS.1) ((hb6.block _ (block_lt HS.2)).trans HS.2)
      clear HS
      have HS := HS'
      clear HS'
      have HM := Lib.hid (HM.out.on hb6)
      clear hb6
      try simp only [pcV]
      refine hK _ _ HS ?_
      clear hK K
      iterate 2 (refine wpHead_step (fun K hK => ?_) HS; go_simp; refine hK _ _ HS ?_; clear hK K)
      refine wpHead_take' (.int .i64 3) rfl (fun W hW => by go_simp) ?_
      try simp only [Act.put, List.setIfInBounds_toArray, List.set_cons_succ, List.set_cons_zero]
      refine wpHead_take' (.bool false) rfl (fun W hW => by go_simp) ?_
      try simp only [Act.put, List.setIfInBounds_toArray, List.set_cons_succ, List.set_cons_zero]
      iterate 10 (refine wpHead_step (fun K hK => ?_) HS; go_simp; refine hK _ _ HS ?_; clear hK K)
      refine wpHead_nil ?_
      repeat (first | go_values | go_skip | go_guarded | go_step | go_upon)
      go_ret
      exact ⟨rfl, HM.out.below⟩
    · skip
      simp only [hi, if_true, if_false, Bool.false_eq_true, pcV] at hS hT
      have HI := Lib.hid hi
      clear hi
      repeat (first | go_values | go_skip | go_guarded | go_step | go_upon)
      refine (hS _).out.mono ?_
      rintro e v1 ⟨rfl, hb1⟩
      have HM := Lib.hid (HM.out.on hb1)
      clear hb1
      try dsimp only
      repeat (first | (go_not_at_region 12; first | go_values | go_skip | go_guarded | go_step | go_upon))
      have h10 := heap_alloc_new v1 (.cells #[.int .u64 (qst : Int), .int .i64 qge, .int .i64 qno, .int .i64 qix, .int .i64 qto, .string ⟨qda.toArray⟩] 24)
      have HM := Lib.hid (HM.out.on ((Below.refl v1.heap.size v1).alloc (Nat.le_refl _) (.cells #[.int .u64 (qst : Int), .int .i64 qge, .int .i64 qno, .int .i64 qix, .int .i64 qto, .string ⟨qda.toArray⟩] 24)))
      generalize v1.alloc (.cells #[.int .u64 (qst : Int), .int .i64 qge, .int .i64 qno, .int .i64 qix, .int .i64 qto, .string ⟨qda.toArray⟩] 24) = v2 at HM h10 ⊢
      generalize v1.heap.size = b10 at h10 ⊢
      have H10 := Lib.hid h10
      clear h10
      repeat (first | go_values | go_skip | go_guarded | go_step | go_upon)
      refine (hT _).out.mono ?_
      rintro e v3 ⟨rfl, hb3⟩
      have H10 := Lib.hid ((hb3.block _ (block_lt H10.out)).trans H10.out)
      have HM := Lib.hid (HM.out.on hb3)
      clear hb3
      try dsimp only
      repeat (first | (go_not_at_region 13; first | go_values | go_skip | go_guarded | go_step | go_upon))
      have h12 := heap_alloc_new v3 (.cells #[.int .u64 (qst : Int), .int .i64 qge, .int .i64 qno, .int .i64 qix, .int .i64 qto, .string ⟨qda.toArray⟩] 30)
      have hb4 := (Below.refl v3.heap.size v3).alloc (Nat.le_refl _) (.cells #[.int .u64 (qst : Int), .int .i64 qge, .int .i64 qno, .int .i64 qix, .int .i64 qto, .string ⟨qda.toArray⟩] 30)
      generalize v3.alloc (.cells #[.int .u64 (qst : Int), .int .i64 qge, .int .i64 qno, .int .i64 qix, .int .i64 qto, .string ⟨qda.toArray⟩] 30) = v4 at hb4 h12 ⊢
      have HM := Lib.hid (HM.out.on hb4)
      have HS : v4.drew.heap[b10]? = some (.cells (pcV ⟨qst, qge, qno, qix, qto, qda⟩) 24 (0, 0)) ∧ v4.drew.heap[v3.heap.size]? = some (.cells (pcV ⟨qst, qge, qno, qix, qto, qda⟩) 30 (0, 0)) := ⟨(hb4.block _ (block_lt H10.out)).trans H10.out, h12⟩
      clear hb4 h12
      generalize v3.heap.size = b12 at HS ⊢
      have HM : Hid (PcM w v4.drew ⟨st, ge, no, ix, to, da⟩) := Lib.hid (HM.out.on (Below.refl _ _).drew)
      refine wp_head_ord 17 [0, 2, 1, 3, 4, 5, 6, 7, 8, 9, 10, 11, 12, 13, 14, 15, 16] [true, true, false, false, false, true, true, false, false, false, false, false, false, false, false, false, false] (fun W => W.heap[b10]? = some (.cells (pcV ⟨qst, qge, qno, qix, qto, qda⟩) 24 (0, 0)) ∧ W.heap[b12]? = some (.cells (pcV ⟨qst, qge, qno, qix, qto, qda⟩) 30 (0, 0))) (by kernel_rfl) (by kernel_rfl) (fun _ _ d _ _ h => by cases d <;> exact h) HS ?_
      simp only [List.map_cons, List.map_nil, List.getD_cons_succ, List.getD_cons_zero, List.drop_succ_cons, List.drop_zero]
      generalize v4.drew = v5 at HM HS ⊢
      refine wpHead_take (.agg #[.int .u64 (qst : Int), .int .i64 qge, .int .i64 qno, .int .i64 qix, .int .i64 qto, .string ⟨qda.toArray⟩]) rfl (fun W hW => by obtain ⟨k0, k1, k2, k3, k4, k5⟩ := cells6 hW.1; clear hW; go_simp) ?_
      try simp only [Act.put, List.setIfInBounds_toArray, List.set_cons_succ, List.set_cons_zero]
      refine wpHead_take (.agg #[.int .u64 (qst : Int), .int .i64 qge, .int .i64 qno, .int .i64 qix, .int .i64 qto, .string ⟨qda.toArray⟩]) rfl (fun W hW => by obtain ⟨k0, k1, k2, k3, k4, k5⟩ := cells6 hW.2; clear hW; go_simp) ?_
      try simp only [Act.put, List.setIfInBounds_toArray, List.set_cons_succ, List.set_cons_zero]
      refine wpHead_step (fun K hK => ?_) HS
      go_simp
      refine (like_any ⟨qst, qge, qno, qix, qto, qda⟩ _).mono ?_
      rintro e v6 ⟨rfl, hb6⟩
      have HS' := And.intro ((hb6.block _ (block_lt HS.1)).trans HS.1) ((hb6.block _ (block_lt HS.2)).trans HS.2)
      clear HS
      have HS := HS'
      clear HS'
      have HM := Lib.hid (HM.out.on hb6)
      clear hb6
      try simp only [pcV]
      refine hK _ _ HS ?_
      clear hK K
      iterate 2 (refine wpHead_step (fun K hK => ?_) HS; go_simp; refine hK _ _ HS ?_; clear hK K)
      refine wpHead_take' (.int .i64 0) rfl (fun W hW => by go_simp) ?_
      try simp only [Act.put, List.setIfInBounds_toArray, List.set_cons_succ, List.set_cons_zero]
      refine wpHead_take' (.bool true) rfl (fun W hW => by go_simp) ?_
      try simp only [Act.put, List.setIfInBounds_toArray, List.set_cons_succ, List.set_cons_zero]
      iterate 10 (refine wpHead_step (fun K hK => ?_) HS; go_simp; refine hK _ _ HS ?_; clear hK K)
      refine wpHead_nil ?_
      repeat (first | go_values | go_skip | go_guarded | go_step | go_upon)
      go_ret
      exact ⟨rfl, HM.out.below⟩
  case true =>
    have HR := Lib.hid hr
    clear hr
    obtain ⟨k0, k1, k2, k3, k4, k5⟩ := cells6 HM.out.ha
    try dsimp only
    repeat (first | go_values | go_skip | go_guarded | go_step | go_upon)
    clear k0 k1 k2 k3 k4 k5
    refine (print_any ⟨st, ge, no, ix, to, da⟩ _ HR.out hst).mono ?_
    rintro e w6 ⟨rfl, hb6⟩
    have HM := Lib.hid (HM.out.on hb6)
    clear hb6
    try simp only [pcV]
    obtain ⟨k0, k1, k2, k3, k4, k5⟩ := cells6 HM.out.ha
    try dsimp only
    repeat (first | go_values | go_skip | go_guarded | go_step | go_upon)
    clear k0 k1 k2 k3 k4 k5
    refine (like_any ⟨st, ge, no, ix, to, da⟩ _).mono ?_
    rintro e w7 ⟨rfl, hb7⟩
    have HM := Lib.hid (HM.out.on hb7)
    clear hb7
    try simp only [pcV]
    obtain ⟨k0, k1, k2, k3, k4, k5⟩ := cells6 HM.out.ha
    try dsimp only
    repeat (first | go_values | go_skip | go_guarded | go_step | go_upon)
    clear k0 k1 k2 k3 k4 k5
    refine (rright_pc ⟨st, ge, no, ix, to, da⟩ _ (by simp only; omega) HR.out).mono ?_
    rintro e w8 ⟨rfl, hb8⟩
    have HM := Lib.hid (HM.out.on hb8)
    clear hb8
    try simp only [pcV]
    obtain ⟨k0, k1, k2, k3, k4, k5⟩ := cells6 HM.out.ha
    try dsimp only
    repeat (first | go_values | go_skip | go_guarded | go_step | go_upon)
    clear k0 k1 k2 k3 k4 k5
    refine (right_pc ⟨st, ge, no, ix, to, da⟩ _ (by simp only; omega) HR.out).mono ?_
    rintro e w9 ⟨rfl, hb9⟩
    have HM := Lib.hid (HM.out.on hb9)
    clear hb9
    try simp only [pcV]
    obtain ⟨k0, k1, k2, k3, k4, k5⟩ := cells6 HM.out.ha
    try dsimp only
    repeat (first | go_values | go_skip | go_guarded | go_step | go_upon)
    clear k0 k1 k2 k3 k4 k5
    refine (like_any ⟨st, ge, no, ix, to, da⟩ _).mono ?_
    rintro e w10 ⟨rfl, hb10⟩
    have HM := Lib.hid (HM.out.on hb10)
    clear hb10
    try simp only [pcV]
    obtain ⟨k0, k1, k2, k3, k4, k5⟩ := cells6 HM.out.ha
    try dsimp only
    repeat (first | go_values | go_skip | go_guarded | go_step | go_upon)
    clear k0 k1 k2 k3 k4 k5
    refine (rprint_any ⟨st, ge, no, ix, to, da⟩ _ HR.out hst).mono ?_
    rintro e w11 ⟨rfl, hb11⟩
    have HM := Lib.hid (HM.out.on hb11)
    clear hb11
    try simp only [pcV]
    have hrp := readR_print ⟨st, ge, no, ix, to, da⟩ HR.out hst
    have hpl : (Pc.print ⟨st, ge, no, ix, to, da⟩).length ≤ 9223372036854775807 := by rw [Pc.print_length ⟨st, ge, no, ix, to, da⟩ (by simp only; have := (Pc.right_iff _).1 HR.out; exact this.2.2.2.2.2.2.2.2)]; decide
    generalize Pc.print ⟨st, ge, no, ix, to, da⟩ = x at hrp hpl ⊢
    have HRP := Lib.hid hrp
    have HPL := Lib.hid hpl
    have hxx : ((⟨x.toArray⟩ : ByteArray).toList == (⟨x.toArray⟩ : ByteArray).toList) = true := beq_self_eq_true _
    clear hrp hpl
    have HZ0 : ∀ W, Hid (Calls Tryd.prog 17 #[.string ⟨x.toArray⟩] W fun e w' => e = .returned (.tuple #[.agg (pcV ⟨st, ge, no, ix, to, da⟩), .int .i64 0]) ∧ Below W.heap.size W w') := fun W => Lib.hid (by
      have := sread_any x W HPL.out
      rw [HRP.out] at this
      exact this)
    obtain ⟨k0, k1, k2, k3, k4, k5⟩ := cells6 HM.out.ha
    try dsimp only
    repeat (first | go_values | go_skip | go_guarded | go_step | go_upon)
    clear k0 k1 k2 k3 k4 k5
    refine ((HZ0 _).out).mono ?_
    rintro e w12 ⟨rfl, hb12⟩
    have HM := Lib.hid (HM.out.on hb12)
    clear hb12
    try simp only [pcV]
    try dsimp only
    repeat (first | (go_not_at_region 9; first | go_values | go_skip | go_guarded | go_step | go_upon))
    have hbx := (Below.refl w12.heap.size w12).alloc (Nat.le_refl _) (.cells (pcV ⟨st, ge, no, ix, to, da⟩) 24)
    have hal := heap_alloc_new w12 (.cells (pcV ⟨st, ge, no, ix, to, da⟩) 24)
    have HM := Lib.hid (HM.out.on hbx)
    change Code.wp _ _ _ _ (w12.alloc (.cells (pcV ⟨st, ge, no, ix, to, da⟩) 24))
    generalize w12.alloc (.cells (pcV ⟨st, ge, no, ix, to, da⟩) 24) = wx at HM hal ⊢
    clear hbx
    obtain ⟨j0, j1, j2, j3, j4, j5⟩ := cells6 hal
    clear hal
    obtain ⟨k0, k1, k2, k3, k4, k5⟩ := cells6 HM.out.ha
    try dsimp only
    repeat (first | (go_not_at_region 11; first | go_values | go_skip | go_guarded | go_step | go_upon))
    clear j0 j1 j2 j3 j4 j5
    clear k0 k1 k2 k3 k4 k5
    obtain ⟨q, hq⟩ : ∃ q, q = (readR s).getD Pc.zero := ⟨_, rfl⟩
    have hS := fun W => Lib.hid (sread_any s W hs)
    have hT := fun W => Lib.hid (rread_any s W hs)
    simp only [← hq] at hS hT
    obtain ⟨qst, qge, qno, qix, qto, qda⟩ := q
    have HQ := Lib.hid hq
    have hqq : ((⟨qda.toArray⟩ : ByteArray).toList == (⟨qda.toArray⟩ : ByteArray).toList) = true := beq_self_eq_true _
    clear hq
    rcases hi : (readR s).isSome with _ | _
    · skip
      simp only [hi, if_true, if_false, Bool.false_eq_true, pcV] at hS hT
      have HI := Lib.hid hi
      clear hi
      repeat (first | go_values | go_skip | go_guarded | go_step | go_upon)
      refine (hS _).out.mono ?_
      rintro e v1 ⟨rfl, hb1⟩
      have HM := Lib.hid (HM.out.on hb1)
      clear hb1
      try dsimp only
      repeat (first | (go_not_at_region 12; first | go_values | go_skip | go_guarded | go_step | go_upon))
      have h10 := heap_alloc_new v1 (.cells #[.int .u64 (qst : Int), .int .i64 qge, .int .i64 qno, .int .i64 qix, .int .i64 qto, .string ⟨qda.toArray⟩] 24)
      have HM := Lib.hid (HM.out.on ((Below.refl v1.heap.size v1).alloc (Nat.le_refl _) (.cells #[.int .u64 (qst : Int), .int .i64 qge, .int .i64 qno, .int .i64 qix, .int .i64 qto, .string ⟨qda.toArray⟩] 24)))
      generalize v1.alloc (.cells #[.int .u64 (qst : Int), .int .i64 qge, .int .i64 qno, .int .i64 qix, .int .i64 qto, .string ⟨qda.toArray⟩] 24) = v2 at HM h10 ⊢
      generalize v1.heap.size = b10 at h10 ⊢
      have H10 := Lib.hid h10
      clear h10
      repeat (first | go_values | go_skip | go_guarded | go_step | go_upon)
      refine (hT _).out.mono ?_
      rintro e v3 ⟨rfl, hb3⟩
      have H10 := Lib.hid ((hb3.block _ (block_lt H10.out)).trans H10.out)
      have HM := Lib.hid (HM.out.on hb3)
      clear hb3
      try dsimp only
      repeat (first | (go_not_at_region 13; first | go_values | go_skip | go_guarded | go_step | go_upon))
      have h12 := heap_alloc_new v3 (.cells #[.int .u64 (qst : Int), .int .i64 qge, .int .i64 qno, .int .i64 qix, .int .i64 qto, .string ⟨qda.toArray⟩] 30)
      have hb4 := (Below.refl v3.heap.size v3).alloc (Nat.le_refl _) (.cells #[.int .u64 (qst : Int), .int .i64 qge, .int .i64 qno, .int .i64 qix, .int .i64 qto, .string ⟨qda.toArray⟩] 30)
      generalize v3.alloc (.cells #[.int .u64 (qst : Int), .int .i64 qge, .int .i64 qno, .int .i64 qix, .int .i64 qto, .string ⟨qda.toArray⟩] 30) = v4 at hb4 h12 ⊢
      have HM := Lib.hid (HM.out.on hb4)
      have HS : v4.drew.heap[b10]? = some (.cells (pcV ⟨qst, qge, qno, qix, qto, qda⟩) 24 (0, 0)) ∧ v4.drew.heap[v3.heap.size]? = some (.cells (pcV ⟨qst, qge, qno, qix, qto, qda⟩) 30 (0, 0)) := ⟨(hb4.block _ (block_lt H10.out)).trans H10.out, h12⟩
      clear hb4 h12
      generalize v3.heap.size = b12 at HS ⊢
      have HM : Hid (PcM w v4.drew ⟨st, ge, no, ix, to, da⟩) := Lib.hid (HM.out.on (Below.refl _ _).drew)
      refine wp_head_ord 17 [0, 2, 1, 3, 4, 5, 6, 7, 8, 9, 10, 11, 12, 13, 14, 15, 16] [true, true, false, false, false, true, true, false, false, false, false, false, false, false, false, false, false] (fun W => W.heap[b10]? = some (.cells (pcV ⟨qst, qge, qno, qix, qto, qda⟩) 24 (0, 0)) ∧ W.heap[b12]? = some (.cells (pcV ⟨qst, qge, qno, qix, qto, qda⟩) 30 (0, 0))) (by kernel_rfl) (by kernel_rfl) (fun _ _ d _ _ h => by cases d <;> exact h) HS ?_
      simp only [List.map_cons, List.map_nil, List.getD_cons_succ, List.getD_cons_zero, List.drop_succ_cons, List.drop_zero]
      generalize v4.drew = v5 at HM HS ⊢
      refine wpHead_take (.agg #[.int .u64 (qst : Int), .int .i64 qge, .int .i64 qno, .int .i64 qix, .int .i64 qto, .string ⟨qda.toArray⟩]) rfl (fun W hW => by obtain ⟨k0, k1, k2, k3, k4, k5⟩ := cells6 hW.1; clear hW; go_simp) ?_
      try simp only [Act.put, List.setIfInBounds_toArray, List.set_cons_succ, List.set_cons_zero]
      refine wpHead_take (.agg #[.int .u64 (qst : Int), .int .i64 qge, .int .i64 qno, .int .i64 qix, .int .i64 qto, .string ⟨qda.toArray⟩]) rfl (fun W hW => by obtain ⟨k0, k1, k2, k3, k4, k5⟩ := cells6 hW.2; clear hW; go_simp) ?_
      try simp only [Act.put, List.setIfInBounds_toArray, List.set_cons_succ, List.set_cons_zero]
      refine wpHead_step (fun K hK => ?_) HS
      go_simp
      refine (like_any ⟨qst, qge, qno, qix, qto, qda⟩ _).mono ?_
      rintro e v6 ⟨rfl, hb6⟩
      have HS' := And.intro ((hb6.block _ (block_lt HS.1)).trans HS.1) ((hb6.block _ (block_lt HS.2)).trans HS.2)
      clear HS
      have HS := HS'
      clear HS'
      have HM := Lib.hid (HM.out.on hb6)
      clear hb6
      try simp only [pcV]
      refine hK _ _ HS ?_
      clear hK K
      iterate 2 (refine wpHead_step (fun K hK => ?_) HS; go_simp; refine hK _ _ HS ?_; clear hK K)
      refine wpHead_take' (.int .i64 3) rfl (fun W hW => by go_simp) ?_
      try simp only [Act.put, List.setIfInBounds_toArray, List.set_cons_succ, List.set_cons_zero]
      refine wpHead_take' (.bool false) rfl (fun W hW => by go_simp) ?_
      try simp only [Act.put, List.setIfInBounds_toArray, List.set_cons_succ, List.set_cons_zero]
      iterate 10 (refine wpHead_step (fun K hK => ?_) HS; go_simp; refine hK _ _ HS ?_; clear hK K)
      refine wpHead_nil ?_
      repeat (first | go_values | go_skip | go_guarded | go_step | go_upon)
      go_ret
      exact ⟨rfl, HM.out.below⟩
    · skip
      simp only [hi, if_true, if_false, Bool.false_eq_true, pcV] at hS hT
      have HI := Lib.hid hi
      clear hi
      repeat (first | go_values | go_skip | go_guarded | go_step | go_upon)
      refine (hS _).out.mono ?_
      rintro e v1 ⟨rfl, hb1⟩
      have HM := Lib.hid (HM.out.on hb1)
      clear hb1
      try dsimp only
      repeat (first | (go_not_at_region 12; first | go_values | go_skip | go_guarded | go_step | go_upon))
      have h10 := heap_alloc_new v1 (.cells #[.int .u64 (qst : Int), .int .i64 qge, .int .i64 qno, .int .i64 qix, .int .i64 qto, .string ⟨qda.toArray⟩] 24)
      have HM := Lib.hid (HM.out.on ((Below.refl v1.heap.size v1).alloc (Nat.le_refl _) (.cells #[.int .u64 (qst : Int), .int .i64 qge, .int .i64 qno, .int .i64 qix, .int .i64 qto, .string ⟨qda.toArray⟩] 24)))
      generalize v1.alloc (.cells #[.int .u64 (qst : Int), .int .i64 qge, .int .i64 qno, .int .i64 qix, .int .i64 qto, .string ⟨qda.toArray⟩] 24) = v2 at HM h10 ⊢
      generalize v1.heap.size = b10 at h10 ⊢
      have H10 := Lib.hid h10
      clear h10
      repeat (first | go_values | go_skip | go_guarded | go_step | go_upon)
      refine (hT _).out.mono ?_
      rintro e v3 ⟨rfl, hb3⟩
      have H10 := Lib.hid ((hb3.block _ (block_lt H10.out)).trans H10.out)
      have HM := Lib.hid (HM.out.on hb3)
      clear hb3
      try dsimp only
      repeat (first | (go_not_at_region 13; first | go_values | go_skip | go_guarded | go_step | go_upon))
      have h12 := heap_alloc_new v3 (.cells #[.int .u64 (qst : Int), .int .i64 qge, .int .i64 qno, .int .i64 qix, .int .i64 qto, .string ⟨qda.toArray⟩] 30)
      have hb4 := (Below.refl v3.heap.size v3).alloc (Nat.le_refl _) (.cells #[.int .u64 (qst : Int), .int .i64 qge, .int .i64 qno, .int .i64 qix, .int .i64 qto, .string ⟨qda.toArray⟩] 30)
      generalize v3.alloc (.cells #[.int .u64 (qst : Int), .int .i64 qge, .int .i64 qno, .int .i64 qix, .int .i64 qto, .string ⟨qda.toArray⟩] 30) = v4 at hb4 h12 ⊢
      have HM := Lib.hid (HM.out.on hb4)
      have HS : v4.drew.heap[b10]? = some (.cells (pcV ⟨qst, qge, qno, qix, qto, qda⟩) 24 (0, 0)) ∧ v4.drew.heap[v3.heap.size]? = some (.cells (pcV ⟨qst, qge, qno, qix, qto, qda⟩) 30 (0, 0)) := ⟨(hb4.block _ (block_lt H10.out)).trans H10.out, h12⟩
      clear hb4 h12
      generalize v3.heap.size = b12 at HS ⊢
      have HM : Hid (PcM w v4.drew ⟨st, ge, no, ix, to, da⟩) := Lib.hid (HM.out.on (Below.refl _ _).drew)
      refine wp_head_ord 17 [0, 2, 1, 3, 4, 5, 6, 7, 8, 9, 10, 11, 12, 13, 14, 15, 16] [true, true, false, false, false, true, true, false, false, false, false, false, false, false, false, false, false] (fun W => W.heap[b10]? = some (.cells (pcV ⟨qst, qge, qno, qix, qto, qda⟩) 24 (0, 0)) ∧ W.heap[b12]? = some (.cells (pcV ⟨qst, qge, qno, qix, qto, qda⟩) 30 (0, 0))) (by kernel_rfl) (by kernel_rfl) (fun _ _ d _ _ h => by cases d <;> exact h) HS ?_
      simp only [List.map_cons, List.map_nil, List.getD_cons_succ, List.getD_cons_zero, List.drop_succ_cons, List.drop_zero]
      generalize v4.drew = v5 at HM HS ⊢
      refine wpHead_take (.agg #[.int .u64 (qst : Int), .int .i64 qge, .int .i64 qno, .int .i64 qix, .int .i64 qto, .string ⟨qda.toArray⟩]) rfl (fun W hW => by obtain ⟨k0, k1, k2, k3, k4, k5⟩ := cells6 hW.1; clear hW; go_simp) ?_
      try simp only [Act.put, List.setIfInBounds_toArray, List.set_cons_succ, List.set_cons_zero]
      refine wpHead_take (.agg #[.int .u64 (qst : Int), .int .i64 qge, .int .i64 qno, .int .i64 qix, .int .i64 qto, .string ⟨qda.toArray⟩]) rfl (fun W hW => by obtain ⟨k0, k1, k2, k3, k4, k5⟩ := cells6 hW.2; clear hW; go_simp) ?_
      try simp only [Act.put, List.setIfInBounds_toArray, List.set_cons_succ, List.set_cons_zero]
      refine wpHead_step (fun K hK => ?_) HS
      go_simp
      refine (like_any ⟨qst, qge, qno, qix, qto, qda⟩ _).mono ?_
      rintro e v6 ⟨rfl, hb6⟩
      have HS' := And.intro ((hb6.block _ (block_lt HS.1)).trans HS.1) ((hb6.block _ (block_lt HS.2)).trans HS.2)
      clear HS
      have HS := HS'
      clear HS'
      have HM := Lib.hid (HM.out.on hb6)
      clear hb6
      try simp only [pcV]
      refine hK _ _ HS ?_
      clear hK K
      iterate 2 (refine wpHead_step (fun K hK => ?_) HS; go_simp; refine hK _ _ HS ?_; clear hK K)
      refine wpHead_take' (.int .i64 0) rfl (fun W hW => by go_simp) ?_
      try simp only [Act.put, List.setIfInBounds_toArray, List.set_cons_succ, List.set_cons_zero]
      refine wpHead_take' (.bool true) rfl (fun W hW => by go_simp) ?_
      try simp only [Act.put, List.setIfInBounds_toArray, List.set_cons_succ, List.set_cons_zero]
      iterate 10 (refine wpHead_step (fun K hK => ?_) HS; go_simp; refine hK _ _ HS ?_; clear hK K)
      refine wpHead_nil ?_
      repeat (first | go_values | go_skip | go_guarded | go_step | go_upon)
      go_ret
      exact ⟨rfl, HM.out.below⟩
end Go.Proofs.YtbdhicjebeoakaaDoor
