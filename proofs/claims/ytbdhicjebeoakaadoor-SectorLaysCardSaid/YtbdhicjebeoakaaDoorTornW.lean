/- lockagelaw04.SectorTorn: the walk. -/
import Derived.Test.YtbdhicjebeoakaaDoorAwk2
import Derived.Test.YtbdhicjebeoakaaDoorTree
set_option linter.unusedVariables false
set_option linter.unusedSimpArgs false
namespace Go.Proofs.YtbdhicjebeoakaaDoor
open Go.RowKit

/-- A piece as a parameter may be. -/
structure Pc.Ok (p : Pc) : Prop where
  stamp : p.stamp < 18446744073709551616
  data : p.data.length ≤ 9223372036854775807
theorem cells6 {W : World} {g : Nat} {t : TypeId} {p : Pc} (h : W.heap[g]? = some (.cells (pcV p) t (0, 0))) :
    W.cell? ⟨g, 0, none⟩ = some (.int .u64 (p.stamp : Int)) ∧ W.cell? ⟨g, 1, none⟩ = some (.int .i64 p.gen) ∧ W.cell? ⟨g, 2, none⟩ = some (.int .i64 p.no) ∧ W.cell? ⟨g, 3, none⟩ = some (.int .i64 p.index) ∧ W.cell? ⟨g, 4, none⟩ = some (.int .i64 p.total) ∧ W.cell? ⟨g, 5, none⟩ = some (.string ⟨p.data.toArray⟩) := by
  have := block_cell h
  exact ⟨this 0, this 1, this 2, this 3, this 4, this 5⟩
/-- Two pieces in boxes of the call's own. -/
structure TwoM (w W : World) (a b : Pc) : Prop where
  below : Below w.heap.size w W
  ha : W.heap[w.heap.size]? = some (.cells (pcV a) 24 (0, 0))
  hb : W.heap[w.heap.size + 1]? = some (.cells (pcV b) 24 (0, 0))
theorem TwoM.on {w W W' : World} {a b : Pc} (h : TwoM w W a b) (hb : Below W.heap.size W W') : TwoM w W' a b :=
  ⟨h.below.trans (hb.mono h.below.size), (hb.block _ (block_lt h.ha)).trans h.ha, (hb.block _ (block_lt h.hb)).trans h.hb⟩
theorem TwoM.start (w : World) (a b : Pc) : TwoM w ((w.alloc (.cells (pcV a) 24)).alloc (.cells (pcV b) 24)) a b := by
  refine ⟨((Below.refl _ _).alloc (Nat.le_refl _) _).alloc (by simp) _, (Below.heap_alloc _ _ _ (by simp)).trans (heap_alloc_new w _), ?_⟩
  have := heap_alloc_new (w.alloc (.cells (pcV a) 24)) (.cells (pcV b) 24)
  rw [World.size_alloc] at this
  exact this
theorem print_any (a : Pc) (w : World) (hr : a.right = true) (hs : a.stamp < 18446744073709551616) :
    Calls Tryd.prog 12 #[.agg (pcV a)] w fun e w' => e = .returned (.tuple #[.string ⟨a.print.toArray⟩, .int .i64 0]) ∧ Below w.heap.size w w' := by
  obtain ⟨st, ge, no, ix, to, da⟩ := a
  have h := (Pc.right_iff _).1 hr
  simp only at h
  obtain ⟨ge, rfl⟩ := Int.eq_ofNat_of_zero_le h.1
  obtain ⟨no, rfl⟩ := Int.eq_ofNat_of_zero_le (show 0 ≤ no by omega)
  obtain ⟨ix, rfl⟩ := Int.eq_ofNat_of_zero_le (show 0 ≤ ix by omega)
  obtain ⟨to, rfl⟩ := Int.eq_ofNat_of_zero_le (show 0 ≤ to by omega)
  exact print_ok st ge no ix to da w hr hs
theorem wp_store_pc {o : Oper} {a : Act} {w : World} {K : Act → World → Prop} {Q : Exit → Act → World → Prop} (ty : TypeId) (x y : Operand) (ho : o.op = .store ty x y) (hi : (Tryd.prog.info? ty).map (·.size) = some 6)
    (g : Nat) (cs old : Array Value) (hx : a.eval x = .pointer (some ⟨g, 0, none⟩)) (hy : a.eval y = .agg cs) (hg : w.heap[g]? = some (.cells old ty (0, 0))) (h6 : cs.size = 6) (ho6 : old.size = 6) (h1 : ∀ v ∈ cs.toList, v.oneCell' = true)
    (h : ∀ w', w'.heap[g]? = some (.cells cs ty (0, 0)) → Fr (fun k => k = g) w w' → K (a.put o.dst undef) w') : o.wp Tryd.prog a w K Q := by
  have e : (old.toList.take 0 ++ cs.toList ++ old.toList.drop (0 + cs.size)).toArray = cs := by
    rw [List.drop_of_length_le (by simp; omega)]; simp
  have hr := run_storeVar_at (P := Tryd.prog) w g 0 ty ty old cs hg (by rw [h6]; exact hi) (by omega) h1
  rw [e] at hr
  unfold Oper.wp execOp
  simp only [ho, hx, hy, Instr.storeAt, Instr.sureAddr, Sem.run_bind, Sem.run_pure, Result.andThen_ok, hr]
  exact h _ (setRow_heap _ _ _ _ _ _ hg) ((Fr.refl (fun k => k = g) w).setRow (g := g) (.inl rfl) cs)
theorem torn_cut (c : Int) : ∃ n : Nat, wrap64 (8 + wrap64 ((IntKind.u64.wrap c).tmod 49)) = (n : Int) ∧ 8 ≤ n ∧ n ≤ 56 := by
  have h : 0 ≤ IntKind.u64.wrap c := by simp [IntKind.wrap, IntKind.bits, IntKind.signed]; omega
  rw [Int.tmod_eq_emod_of_nonneg h]
  refine ⟨(8 + IntKind.u64.wrap c % 49).toNat, ?_, by omega, by omega⟩
  unfold wrap64
  omega
set_option maxRecDepth 100000 in
set_option maxHeartbeats 4000000 in
theorem torn_walk (a b : Pc) (cut : Int) (w : World) (ha : a.Ok) (hb : b.Ok) :
    Calls Tryd.prog 4 #[.agg (pcV a), .agg (pcV b), .int .i64 cut] w fun e w' => e = .returned (.bool true) ∧ Below w.heap.size w w' := by
  have hm0 := TwoM.start w a b
  obtain ⟨st, ge, no, ix, to, da⟩ := a
  obtain ⟨st', ge', no', ix', to', da'⟩ := b
  obtain ⟨hst, hda⟩ := ha
  obtain ⟨hst', hda'⟩ := hb
  simp only at hst hda hst' hda'
  simp only [pcV]
  have HAW := fun W => Lib.hid (awake_ok W)
  obtain ⟨c, hc, hc8, hc56⟩ := torn_cut cut
  have HC := Lib.hid hc
  have HM := Lib.hid hm0
  clear hc hm0
  go_enter Tryd.func4, Tryd.ntmps4
  go_wp2_with fail
  rw [HC.out]
  refine (HAW _).out.mono ?_
  rintro e w1 ⟨rfl, hb1⟩
  have HM := Lib.hid (HM.out.on hb1)
  clear hb1

  obtain ⟨k0, k1, k2, k3, k4, k5⟩ := cells6 HM.out.ha
  obtain ⟨j0, j1, j2, j3, j4, j5⟩ := cells6 HM.out.hb
  try dsimp only
  repeat (first | go_values | go_skip | go_guarded | go_step | go_upon)
  clear k0 k1 k2 k3 k4 k5 j0 j1 j2 j3 j4 j5
  refine (like_any ⟨st, ge, no, ix, to, da⟩ _).mono ?_
  rintro e w2 ⟨rfl, hb2⟩
  have HM := Lib.hid (HM.out.on hb2)
  clear hb2
  have hR := rright_any st ge no ix to da w2 hda
  rcases hra : Pc.right ⟨st, ge, no, ix, to, da⟩ with _ | _
  all_goals rw [hra] at hR
  all_goals have HRA := Lib.hid hra
  all_goals clear hra
  case false =>
    simp only [pcV]
    try dsimp only
    repeat (first | go_values | go_skip | go_guarded | go_step | go_upon)
    refine hR.mono ?_
    rintro e w3 ⟨rfl, hb3⟩
    have HM := Lib.hid (HM.out.on hb3)
    clear hb3
    try dsimp only
    repeat (first | go_values | go_skip | go_guarded | go_step | go_upon)
    refine (HAW _).out.mono ?_
    rintro e w9 ⟨rfl, hb9⟩
    have HM := Lib.hid (HM.out.on hb9)
    clear hb9
    try dsimp only
    repeat (first | go_values | go_skip | go_guarded | go_step | go_upon)
    go_ret
    exact ⟨rfl, HM.out.below⟩
  simp only [pcV]
  try dsimp only
  repeat (first | go_values | go_skip | go_guarded | go_step | go_upon)
  refine hR.mono ?_
  rintro e w3 ⟨rfl, hb3⟩
  clear hR
  have HM := Lib.hid (HM.out.on hb3)
  clear hb3
  obtain ⟨k0, k1, k2, k3, k4, k5⟩ := cells6 HM.out.ha
  obtain ⟨j0, j1, j2, j3, j4, j5⟩ := cells6 HM.out.hb
  try dsimp only
  repeat (first | go_values | go_skip | go_guarded | go_step | go_upon)
  clear k0 k1 k2 k3 k4 k5 j0 j1 j2 j3 j4 j5
  refine (like_any ⟨st', ge', no', ix', to', da'⟩ _).mono ?_
  rintro e w4 ⟨rfl, hb4⟩
  have HM := Lib.hid (HM.out.on hb4)
  clear hb4
  have hR := rright_any st' ge' no' ix' to' da' w4 hda'
  rcases hrb : Pc.right ⟨st', ge', no', ix', to', da'⟩ with _ | _
  all_goals rw [hrb] at hR
  all_goals have HRB := Lib.hid hrb
  all_goals clear hrb
  case false =>
    simp only [pcV]
    try dsimp only
    repeat (first | go_values | go_skip | go_guarded | go_step | go_upon)
    refine hR.mono ?_
    rintro e w5 ⟨rfl, hb5⟩
    have HM := Lib.hid (HM.out.on hb5)
    clear hb5
    try dsimp only
    repeat (first | go_values | go_skip | go_guarded | go_step | go_upon)
    refine (HAW _).out.mono ?_
    rintro e w9 ⟨rfl, hb9⟩
    have HM := Lib.hid (HM.out.on hb9)
    clear hb9
    try dsimp only
    repeat (first | go_values | go_skip | go_guarded | go_step | go_upon)
    go_ret
    exact ⟨rfl, HM.out.below⟩
  simp only [pcV]
  try dsimp only
  repeat (first | go_values | go_skip | go_guarded | go_step | go_upon)
  refine hR.mono ?_
  rintro e w5 ⟨rfl, hb5⟩
  clear hR
  have HM := Lib.hid (HM.out.on hb5)
  clear hb5
  by_cases hse : st = st'
  case pos =>
    have hsb : (((st : Nat) : Int) == (st' : Int)) = true := by rw [beq_iff_eq]; omega
    clear hse
    obtain ⟨k0, k1, k2, k3, k4, k5⟩ := cells6 HM.out.ha
    obtain ⟨j0, j1, j2, j3, j4, j5⟩ := cells6 HM.out.hb
    try dsimp only
    repeat (first | go_values | go_skip | go_guarded | go_step | go_upon)
    refine (HAW _).out.mono ?_
    rintro e w9 ⟨rfl, hb9⟩
    have HM := Lib.hid (HM.out.on hb9)
    clear hb9
    try dsimp only
    repeat (first | go_values | go_skip | go_guarded | go_step | go_upon)
    go_ret
    exact ⟨rfl, HM.out.below⟩
  have hsb : (((st : Nat) : Int) == (st' : Int)) = false := by rw [beq_eq_false_iff_ne]; omega
  have HSE := Lib.hid hse
  clear hse
  obtain ⟨k0, k1, k2, k3, k4, k5⟩ := cells6 HM.out.ha
  obtain ⟨j0, j1, j2, j3, j4, j5⟩ := cells6 HM.out.hb
  try dsimp only
  repeat (first | go_values | go_skip | go_guarded | go_step | go_upon)
  clear k0 k1 k2 k3 k4 k5 j0 j1 j2 j3 j4 j5
  refine (print_any ⟨st, ge, no, ix, to, da⟩ _ HRA.out hst).mono ?_
  rintro e w6 ⟨rfl, hb6⟩
  have HM := Lib.hid (HM.out.on hb6)
  clear hb6
  obtain ⟨k0, k1, k2, k3, k4, k5⟩ := cells6 HM.out.ha
  obtain ⟨j0, j1, j2, j3, j4, j5⟩ := cells6 HM.out.hb
  try dsimp only
  repeat (first | go_values | go_skip | go_guarded | go_step | go_upon)
  clear k0 k1 k2 k3 k4 k5 j0 j1 j2 j3 j4 j5
  refine (print_any ⟨st', ge', no', ix', to', da'⟩ _ HRB.out hst').mono ?_
  rintro e w7 ⟨rfl, hb7⟩
  have HM := Lib.hid (HM.out.on hb7)
  clear hb7
  have hla := Pc.print_length ⟨st, ge, no, ix, to, da⟩ (by have := (Pc.right_iff _).1 HRA.out; exact this.2.2.2.2.2.2.2.2)
  have hlb := Pc.print_length ⟨st', ge', no', ix', to', da'⟩ (by have := (Pc.right_iff _).1 HRB.out; exact this.2.2.2.2.2.2.2.2)
  have htn := torn_none ⟨st, ge, no, ix, to, da⟩ ⟨st', ge', no', ix', to', da'⟩ c (by have := (Pc.right_iff _).1 HRA.out; exact this.2.2.2.2.2.2.2.2) (by have := (Pc.right_iff _).1 HRB.out; exact this.2.2.2.2.2.2.2.2) hst hst' HSE.out hc8 hc56
  generalize Pc.print ⟨st, ge, no, ix, to, da⟩ = x at hla htn ⊢
  generalize Pc.print ⟨st', ge', no', ix', to', da'⟩ = y at hlb htn ⊢
  have hx : (⟨x.toArray⟩ : ByteArray).size = 64 := by simp [ByteArray.size, hla]
  have hy : (⟨y.toArray⟩ : ByteArray).size = 64 := by simp [ByteArray.size, hlb]
  have hsx : ∀ W : World, (Instr.slice 9 (.string ⟨x.toArray⟩) none (some (.int .i64 (c : Int))) none).run Tryd.prog W = .ok (.string ⟨(x.take c).toArray⟩) W := fun W => by
    have := run_slice_string_h (P := Tryd.prog) (t := 9) (s := ⟨x.toArray⟩) W Tryd.underlying9 .i64 (c : Int) (by omega) (by rw [hx]; omega)
    rw [this, Int.toNat_natCast, take_ext]
  have hsy : ∀ W : World, (Instr.slice 9 (.string ⟨y.toArray⟩) (some (.int .i64 (c : Int))) none none).run Tryd.prog W = .ok (.string ⟨(y.drop c).toArray⟩) W := fun W => by
    have := run_slice_string_l (P := Tryd.prog) (t := 9) (s := ⟨y.toArray⟩) W Tryd.underlying9 .i64 (c : Int) (by omega) (by rw [hy]; omega)
    rw [this, Int.toNat_natCast, hy, ← hlb, drop_ext]
  have hcat : (⟨(x.take c).toArray⟩ : ByteArray) ++ ⟨(y.drop c).toArray⟩ = ⟨(x.take c ++ y.drop c).toArray⟩ := str_append _ _
  have hL : (x.take c).length + (y.drop c).length ≤ 9223372036854775807 := by rw [List.length_take, List.length_drop]; omega
  have hzl : (x.take c ++ y.drop c).length ≤ 9223372036854775807 := by rw [List.length_append]; exact hL
  have HTN := Lib.hid htn
  have HZL := Lib.hid hzl
  clear htn hzl hx hy hla hlb
  generalize x.take c = x1 at hsx hcat hL HTN HZL
  generalize y.drop c = y1 at hsy hcat hL HTN HZL
  have hx1 : (⟨x1.toArray⟩ : ByteArray).size = x1.length := by simp [ByteArray.size]
  have hy1 : (⟨y1.toArray⟩ : ByteArray).size = y1.length := by simp [ByteArray.size]
  generalize x1 ++ y1 = z at hcat HTN HZL
  try dsimp only
  repeat (first | go_values | go_skip | go_guarded | go_step | go_upon)
  have hm0 : TwoM w w7.drew ⟨st, ge, no, ix, to, da⟩ ⟨st', ge', no', ix', to', da'⟩ := HM.out.on (Below.refl _ _).drew
  have HM := Lib.hid hm0
  clear hm0
  refine wp_head_tr 13 (.take 0 (.take 1 (.take 2 (.take 3 (.take 4 (.take 5 (.take 6 (.two 7 (.take 8 (.take 9 (.take 10 (.one 11 (.one 12 .done))))) 11 (.one 7 (.take 8 (.take 9 (.take 10 (.one 12 .done))))))))))))) (fun _ => True) (by kernel_rfl) (by kernel_rfl) (fun _ _ d _ _ h => by cases d <;> exact h) trivial ?_
  simp only [Tr.on, List.getD_cons_succ, List.getD_cons_zero, List.drop_succ_cons, List.drop_zero]
  generalize w7.drew = c0 at HM ⊢
  refine wpTr_take (.string ⟨x.toArray⟩) rfl (fun W hW => by clear hW; go_simp) ?_
  try simp only [Act.put, List.setIfInBounds_toArray, List.set_cons_succ, List.set_cons_zero]
  refine wpTr_take (.int .i64 (c : Int)) rfl (fun W hW => by clear hW; go_simp) ?_
  try simp only [Act.put, List.setIfInBounds_toArray, List.set_cons_succ, List.set_cons_zero]
  refine wpTr_take (.string ⟨x1.toArray⟩) rfl (fun W hW => by clear hW; go_simp) ?_
  try simp only [Act.put, List.setIfInBounds_toArray, List.set_cons_succ, List.set_cons_zero]
  refine wpTr_take (.string ⟨y.toArray⟩) rfl (fun W hW => by clear hW; go_simp) ?_
  try simp only [Act.put, List.setIfInBounds_toArray, List.set_cons_succ, List.set_cons_zero]
  refine wpTr_take (.int .i64 (c : Int)) rfl (fun W hW => by clear hW; go_simp) ?_
  try simp only [Act.put, List.setIfInBounds_toArray, List.set_cons_succ, List.set_cons_zero]
  refine wpTr_take (.string ⟨y1.toArray⟩) rfl (fun W hW => by clear hW; go_simp) ?_
  try simp only [Act.put, List.setIfInBounds_toArray, List.set_cons_succ, List.set_cons_zero]
  refine wpTr_take (.string ⟨z.toArray⟩) rfl (fun W hW => by clear hW; go_simp) ?_
  try simp only [Act.put, List.setIfInBounds_toArray, List.set_cons_succ, List.set_cons_zero]
  have hz0 : ∀ W, Calls Tryd.prog 17 #[.string ⟨z.toArray⟩] W fun e w' => e = .returned (.tuple #[.agg #[.int .u64 0, .int .i64 0, .int .i64 0, .int .i64 0, .int .i64 0, .string ⟨#[]⟩], .int .i64 3]) ∧ Below W.heap.size W w' := fun W => by
    have := sread_any z W HZL.out
    rw [HTN.out] at this
    exact this
  refine wpTr_two ?_ ?_
  · skip
    refine wpTr_one (fun K hK => ?_)
    refine wpOne_plain rfl ?_
    go_simp
    refine (hz0 _).mono ?_
    rintro e w8 ⟨rfl, hb8⟩
    have HM := Lib.hid (HM.out.on hb8)
    clear hb8
    refine hK (fun _ => True) _ _ (fun _ h => h) trivial ?_
    clear hK K
    try simp only [Act.put, List.setIfInBounds_toArray, List.set_cons_succ, List.set_cons_zero]
    refine wpTr_take (.tuple #[.agg #[.int .u64 0, .int .i64 0, .int .i64 0, .int .i64 0, .int .i64 0, .string ⟨#[]⟩], .int .i64 3]) rfl (fun W hW => by clear hW; go_simp) ?_
    try simp only [Act.put, List.setIfInBounds_toArray, List.set_cons_succ, List.set_cons_zero]
    refine wpTr_take (.agg #[.int .u64 0, .int .i64 0, .int .i64 0, .int .i64 0, .int .i64 0, .string ⟨#[]⟩]) rfl (fun W hW => by clear hW; go_simp) ?_
    try simp only [Act.put, List.setIfInBounds_toArray, List.set_cons_succ, List.set_cons_zero]
    refine wpTr_take (.int .i64 3) rfl (fun W hW => by clear hW; go_simp) ?_
    try simp only [Act.put, List.setIfInBounds_toArray, List.set_cons_succ, List.set_cons_zero]
    refine wpTr_one (fun K hK => ?_)
    refine wpOne_plain rfl ?_
    go_simp
    have hbs := HM.out.below.size
    have hal := heap_alloc_new w8 (.cells z6 24)
    have HM := Lib.hid (HM.out.on ((Below.refl _ _).alloc (Nat.le_refl _) (.cells z6 24)))
    change K _ (w8.alloc (.cells z6 24))
    generalize w8.alloc (.cells z6 24) = w9 at hal HM ⊢
    generalize w8.heap.size = pb at hal hbs ⊢
    have HAL := Lib.hid hal
    clear hal
    refine hK (fun _ => True) _ _ (fun _ h => h) trivial ?_
    clear hK K
    try simp only [Act.put, List.setIfInBounds_toArray, List.set_cons_succ, List.set_cons_zero]
    refine wpTr_one (fun K hK => ?_)
    refine wpOne_plain rfl ?_
    refine wp_store_pc 24 _ _ rfl size_piece pb z6 z6 rfl rfl HAL.out rfl rfl z6_one (fun w10 hq hf => ?_)
    have hB10 := HM.out.below.trans (hf.below HM.out.below.size (fun k hk => by subst hk; exact hbs))
    refine hK (fun _ => True) _ _ (fun _ h => h) trivial ?_
    clear hK K
    try simp only [Act.put, List.setIfInBounds_toArray, List.set_cons_succ, List.set_cons_zero]
    refine wpTr_done ?_
    go_wp2_with fail
    go_ret
    exact ⟨rfl, hB10⟩
  · refine wpTr_one (fun K hK => ?_)
    refine wpOne_plain rfl ?_
    go_simp
    have hbs := HM.out.below.size
    have hal := heap_alloc_new c0 (.cells z6 24)
    have HM := Lib.hid (HM.out.on ((Below.refl _ _).alloc (Nat.le_refl _) (.cells z6 24)))
    change K _ (c0.alloc (.cells z6 24))
    generalize c0.alloc (.cells z6 24) = w8 at hal HM ⊢
    generalize c0.heap.size = pb at hal hbs ⊢
    have HAL := Lib.hid hal
    clear hal
    refine hK (fun _ => True) _ _ (fun _ h => h) trivial ?_
    clear hK K
    try simp only [Act.put, List.setIfInBounds_toArray, List.set_cons_succ, List.set_cons_zero]
    refine wpTr_one (fun K hK => ?_)
    refine wpOne_plain rfl ?_
    go_simp
    refine (hz0 _).mono ?_
    rintro e w9 ⟨rfl, hb8⟩
    have HM := Lib.hid (HM.out.on hb8)
    have HAL := Lib.hid ((hb8.block _ (block_lt HAL.out)).trans HAL.out)
    clear hb8
    refine hK (fun _ => True) _ _ (fun _ h => h) trivial ?_
    clear hK K
    try simp only [Act.put, List.setIfInBounds_toArray, List.set_cons_succ, List.set_cons_zero]
    refine wpTr_take (.tuple #[.agg #[.int .u64 0, .int .i64 0, .int .i64 0, .int .i64 0, .int .i64 0, .string ⟨#[]⟩], .int .i64 3]) rfl (fun W hW => by clear hW; go_simp) ?_
    try simp only [Act.put, List.setIfInBounds_toArray, List.set_cons_succ, List.set_cons_zero]
    refine wpTr_take (.agg #[.int .u64 0, .int .i64 0, .int .i64 0, .int .i64 0, .int .i64 0, .string ⟨#[]⟩]) rfl (fun W hW => by clear hW; go_simp) ?_
    try simp only [Act.put, List.setIfInBounds_toArray, List.set_cons_succ, List.set_cons_zero]
    refine wpTr_take (.int .i64 3) rfl (fun W hW => by clear hW; go_simp) ?_
    try simp only [Act.put, List.setIfInBounds_toArray, List.set_cons_succ, List.set_cons_zero]
    refine wpTr_one (fun K hK => ?_)
    refine wpOne_plain rfl ?_
    refine wp_store_pc 24 _ _ rfl size_piece pb z6 z6 rfl rfl HAL.out rfl rfl z6_one (fun w10 hq hf => ?_)
    have hB10 := HM.out.below.trans (hf.below HM.out.below.size (fun k hk => by subst hk; exact hbs))
    refine hK (fun _ => True) _ _ (fun _ h => h) trivial ?_
    clear hK K
    try simp only [Act.put, List.setIfInBounds_toArray, List.set_cons_succ, List.set_cons_zero]
    refine wpTr_done ?_
    go_wp2_with fail
    go_ret
    exact ⟨rfl, hB10⟩
end Go.Proofs.YtbdhicjebeoakaaDoor
