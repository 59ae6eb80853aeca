/- sector.Read, on. -/
import Derived.Test.YtbdhicjebeoakaaDoorSec6
set_option linter.unusedVariables false
set_option linter.unusedSimpArgs false
namespace Go.Proofs.YtbdhicjebeoakaaDoor
open Go.RowKit

theorem z6_size : z6.size = 6 := rfl
theorem zz_size : (#[Value.int .u64 0, .int .i64 0, .int .i64 0, .int .i64 0, .int .i64 0, .string ⟨#[]⟩] : Array Value).size = 6 := rfl
theorem pc_size (v0 v1 v2 v3 v4 : Nat) (da : List UInt8) : (#[Value.int .u64 (v0 : Int), .int .i64 (v1 : Int), .int .i64 (v2 : Int), .int .i64 (v3 : Int), .int .i64 (v4 : Int), .string ⟨da.toArray⟩] : Array Value).size = 6 := rfl
theorem size_piece : (Tryd.prog.info? 24).map (·.size) = some 6 := by kernel_rfl
theorem wpList_store_pc {ops : Array Oper} {rest : List Oper} {o : Oper} {a : Act} {w : World} {Q : Exit → Act → World → Prop} (hgd : o.guard = none) (x y : Operand) (ho : o.op = .store 24 x y)
    (g : Nat) (cs old : Array Value) (hx : a.eval x = .pointer (some ⟨g, 0, none⟩)) (hy : a.eval y = .agg cs) (hg : w.heap[g]? = some (.cells old 24 (0, 0))) (h6 : cs.size = 6) (ho6 : old.size = 6) (h1 : ∀ v ∈ cs.toList, v.oneCell' = true)
    (h : ∀ w', w'.heap[g]? = some (.cells cs 24 (0, 0)) → Fr (fun k => k = g) w w' → wpList Tryd.prog ops Q rest (a.put o.dst undef) w') : wpList Tryd.prog ops Q (o :: rest) a w := by
  refine wpList_store_at hgd 24 x y ho g 0 cs hx hy 24 old hg (by rw [h6]; exact size_piece) (by omega) h1 ?_
  have e : (old.toList.take 0 ++ cs.toList ++ old.toList.drop (0 + cs.size)).toArray = cs := by
    rw [List.drop_of_length_le (by simp; omega)]; simp
  rw [e]
  exact h _ (setRow_heap _ _ _ _ _ _ hg) ((Fr.refl (fun k => k = g) w).setRow (g := g) (.inl rfl) cs)
theorem z6_one : ∀ v ∈ (#[Value.int .u64 0, .int .i64 0, .int .i64 0, .int .i64 0, .int .i64 0, .string ⟨#[]⟩] : Array Value).toList, v.oneCell' = true := by
  intro v hv
  simp at hv
  rcases hv with rfl | rfl | rfl | rfl | rfl | rfl <;> rfl
theorem pc_one (v0 v1 v2 v3 v4 : Nat) (da : List UInt8) : ∀ v ∈ (#[Value.int .u64 (v0 : Int), .int .i64 (v1 : Int), .int .i64 (v2 : Int), .int .i64 (v3 : Int), .int .i64 (v4 : Int), .string ⟨da.toArray⟩] : Array Value).toList, v.oneCell' = true := by
  intro v hv
  simp at hv
  rcases hv with rfl | rfl | rfl | rfl | rfl | rfl <;> rfl
set_option maxRecDepth 20000 in
theorem sread_long (s : List UInt8) (w : World) (h : s.length = 64) (h8 : sub s 0 8 = s.drop 56) (h37 : 37 < (s.getD 18 0).toNat) :
    Calls Tryd.prog 17 #[.string ⟨s.toArray⟩] w fun e w' => e = .returned (.tuple #[.agg z6, .int .i64 3]) ∧ Below w.heap.size w w' := by
  have hsz : (⟨s.toArray⟩ : ByteArray).size = 64 := by simp [ByteArray.size, h]
  obtain ⟨L, hL⟩ : ∃ L : Nat, (s.getD 18 0).toNat = L := ⟨_, rfl⟩
  obtain ⟨b, hb⟩ : ∃ b : ByteArray, b = ⟨s.toArray⟩ := ⟨_, rfl⟩
  rw [← hb] at hsz ⊢
  have hxy : ((⟨(sub s 0 8).toArray⟩ : ByteArray).toList == (⟨(s.drop 56).toArray⟩ : ByteArray).toList) = true := by rw [h8]; exact beq_self_eq_true _
  obtain ⟨x, hx⟩ : ∃ x : ByteArray, x = ⟨(sub s 0 8).toArray⟩ := ⟨_, rfl⟩
  obtain ⟨y, hy⟩ : ∃ y : ByteArray, y = ⟨(s.drop 56).toArray⟩ := ⟨_, rfl⟩
  rw [← hx, ← hy] at hxy
  have hx1 : b.extract 0 8 = x := by rw [hb, hx, ext_sub]
  have hy1 : b.extract 56 64 = y := by rw [hb, hy, ext_sub, sub_to_end s 56 64 h]
  have hidx : (b[18]'(by rw [hsz]; omega)).toNat = L := by
    subst hb
    rw [← hL, List.getD_eq_getElem?_getD, List.getElem?_eq_getElem (by omega)]
    rfl
  have hl : ((37 : Int) < (L : Int)) = True := by simp only [eq_iff_iff, iff_true]; omega
  clear hb hx hy hL h37 h8
  go_enter Tryd.func17, Tryd.ntmps17
  go_wp2_with fail
  refine wp_head_tail 14 [false, false, false, false, true, true, false, false, false, false, false, false, false, false] (fun _ => True) (by kernel_rfl) (by kernel_rfl) (fun _ _ d _ _ h => by cases d <;> exact h) trivial ?_
  simp only [List.take_succ_cons, List.take_zero, List.drop_succ_cons, List.drop_zero]
  iterate 4 (refine wpHead_step (fun K hK => ?_) trivial; go_simp; refine hK _ _ trivial ?_; clear hK K)
  refine wpHead_take' (.string b) rfl (fun W hW => by go_simp) ?_
  simp only [Act.put, List.setIfInBounds_toArray, List.set_cons_succ, List.set_cons_zero]
  refine wpHead_take' (.string x) rfl (fun W hW => by go_simp) ?_
  simp only [Act.put, List.setIfInBounds_toArray, List.set_cons_succ, List.set_cons_zero]
  iterate 8 (refine wpHead_step (fun K hK => ?_) trivial; go_simp; refine hK _ _ trivial ?_; clear hK K)
  refine wpHead_nil ?_
  go_wp2_with fail
  refine ret_cell rfl w.heap.size 24 z6 (0, 0) _ rfl (heap_alloc_new w _) Tryd.underlying24 rfl (by kernel_rfl) rfl ?_
  exact ⟨rfl, ((Below.refl _ _).alloc (Nat.le_refl _) _).drew⟩
set_option maxRecDepth 20000 in
set_option maxHeartbeats 1000000 in
theorem sread_body (s : List UInt8) (w : World) (h : s.length = 64) (h8 : sub s 0 8 = s.drop 56) (h37 : ¬ 37 < (s.getD 18 0).toNat) :
    Calls Tryd.prog 17 #[.string ⟨s.toArray⟩] w fun e w' => e = .returned (.tuple #[.agg (pcV ((readS s).getD Pc.zero)), .int .i64 (if (readS s).isSome then 0 else 3)]) ∧ Below w.heap.size w w' := by
  have hsz : (⟨s.toArray⟩ : ByteArray).size = 64 := by simp [ByteArray.size, h]
  obtain ⟨L, hL⟩ : ∃ L : Nat, (s.getD 18 0).toNat = L := ⟨_, rfl⟩
  obtain ⟨b, hb⟩ : ∃ b : ByteArray, b = ⟨s.toArray⟩ := ⟨_, rfl⟩
  rw [← hb] at hsz ⊢
  have hxy : ((⟨(sub s 0 8).toArray⟩ : ByteArray).toList == (⟨(s.drop 56).toArray⟩ : ByteArray).toList) = true := by rw [h8]; exact beq_self_eq_true _
  obtain ⟨x, hx⟩ : ∃ x : ByteArray, x = ⟨(sub s 0 8).toArray⟩ := ⟨_, rfl⟩
  obtain ⟨y, hy⟩ : ∃ y : ByteArray, y = ⟨(s.drop 56).toArray⟩ := ⟨_, rfl⟩
  rw [← hx, ← hy] at hxy
  have hx1 : b.extract 0 8 = x := by rw [hb, hx, ext_sub]
  have hy1 : b.extract 56 64 = y := by rw [hb, hy, ext_sub, sub_to_end s 56 64 h]
  have hidx : (b[18]'(by rw [hsz]; omega)).toNat = L := by
    subst hb
    rw [← hL, List.getD_eq_getElem?_getD, List.getElem?_eq_getElem (by omega)]
    rfl
  have hl : ((37 : Int) < (L : Int)) = False := by simp only [eq_iff_iff, iff_false]; omega
  obtain ⟨n, hn⟩ : ∃ n : Nat, n = 19 + L := ⟨_, rfl⟩
  have hP0 : pieceOf s = ⟨valL (sub s 0 8), valL (sub s 8 12), valL (sub s 12 14), valL (sub s 14 16), valL (sub s 16 18), sub s 19 n⟩ := by rw [hn, ← hL]; rfl
  have hS : readS s = if (pieceOf s).right = true ∧ (sub s n 56).all (· == 0) = true then some (pieceOf s) else none := by
    unfold readS
    rw [if_neg (fun hh => by rcases hh with hh | hh | hh; exact hh h; exact hh h8; exact h37 hh), hn, ← hL]
  rw [hP0] at hS
  clear hP0
  have gv0 := fun W => Lib.hid (get_any (sub s 0 8) (by rw [sub_length s _ _ (by omega)]; omega) W)
  have bv0 := valL_lt (sub s 0 8)
  rw [sub_length s _ _ (by omega)] at bv0
  generalize valL (sub s 0 8) = v0 at gv0 bv0 hS
  have qv1 : b.extract 8 12 = ⟨(sub s 8 12).toArray⟩ := by rw [hb, ext_sub]
  have gv1 := fun W => Lib.hid (get_any (sub s 8 12) (by rw [sub_length s _ _ (by omega)]; omega) W)
  have bv1 := valL_lt (sub s 8 12)
  rw [sub_length s _ _ (by omega)] at bv1
  generalize valL (sub s 8 12) = v1 at gv1 bv1 hS
  generalize sub s 8 12 = sv1 at qv1 gv1
  have wv1 : IntKind.i64.wrap (v1 : Int) = (v1 : Int) := by simp [IntKind.wrap, IntKind.bits, IntKind.signed]; omega
  have qv2 : b.extract 12 14 = ⟨(sub s 12 14).toArray⟩ := by rw [hb, ext_sub]
  have gv2 := fun W => Lib.hid (get_any (sub s 12 14) (by rw [sub_length s _ _ (by omega)]; omega) W)
  have bv2 := valL_lt (sub s 12 14)
  rw [sub_length s _ _ (by omega)] at bv2
  generalize valL (sub s 12 14) = v2 at gv2 bv2 hS
  generalize sub s 12 14 = sv2 at qv2 gv2
  have wv2 : IntKind.i64.wrap (v2 : Int) = (v2 : Int) := by simp [IntKind.wrap, IntKind.bits, IntKind.signed]; omega
  have qv3 : b.extract 14 16 = ⟨(sub s 14 16).toArray⟩ := by rw [hb, ext_sub]
  have gv3 := fun W => Lib.hid (get_any (sub s 14 16) (by rw [sub_length s _ _ (by omega)]; omega) W)
  have bv3 := valL_lt (sub s 14 16)
  rw [sub_length s _ _ (by omega)] at bv3
  generalize valL (sub s 14 16) = v3 at gv3 bv3 hS
  generalize sub s 14 16 = sv3 at qv3 gv3
  have wv3 : IntKind.i64.wrap (v3 : Int) = (v3 : Int) := by simp [IntKind.wrap, IntKind.bits, IntKind.signed]; omega
  have qv4 : b.extract 16 18 = ⟨(sub s 16 18).toArray⟩ := by rw [hb, ext_sub]
  have gv4 := fun W => Lib.hid (get_any (sub s 16 18) (by rw [sub_length s _ _ (by omega)]; omega) W)
  have bv4 := valL_lt (sub s 16 18)
  rw [sub_length s _ _ (by omega)] at bv4
  generalize valL (sub s 16 18) = v4 at gv4 bv4 hS
  generalize sub s 16 18 = sv4 at qv4 gv4
  have wv4 : IntKind.i64.wrap (v4 : Int) = (v4 : Int) := by simp [IntKind.wrap, IntKind.bits, IntKind.signed]; omega
  have qd : b.extract 19 n = ⟨(sub s 19 n).toArray⟩ := by rw [hb, ext_sub]
  have qt : b.extract n 56 = ⟨(sub s n 56).toArray⟩ := by rw [hb, ext_sub]
  have ld := sub_length s 19 n (by omega)
  have hT := fun W => Lib.hid (trim_any (sub s n 56) W (by rw [sub_length s _ _ (by omega)]; omega))
  have hTn := trimL_nil_iff (sub s n 56)
  have hsl : ∀ W : World, (Instr.slice 9 (.string b) (some (.int .i64 19)) (some (.int .i64 (n : Int))) none).run Tryd.prog W = .ok (.string ⟨(sub s 19 n).toArray⟩) W := fun W => by
    rw [← qd]
    exact run_slice_string (P := Tryd.prog) W 9 b .i64 .i64 19 (n : Int) Tryd.underlying9 (by omega) (by omega) (by rw [hsz]; omega)
  have hst : ∀ W : World, (Instr.slice 9 (.string b) (some (.int .i64 (n : Int))) (some (.int .i64 56)) none).run Tryd.prog W = .ok (.string ⟨(sub s n 56).toArray⟩) W := fun W => by
    rw [← qt]
    exact run_slice_string (P := Tryd.prog) W 9 b .i64 .i64 (n : Int) 56 Tryd.underlying9 (by omega) (by omega) (by rw [hsz]; omega)
  clear qd qt
  generalize sub s 19 n = da at hsl hS ld
  generalize sub s n 56 = tl at hst hT hTn hS
  have HR := fun W => Lib.hid (right_any v0 v1 v2 v3 v4 da W (by omega))
  rw [← hx] at gv0
  have hn1 : (19 : Int) + (L : Int) = (n : Int) := by omega
  have hn2 : n ≤ 56 := by omega
  have hn3 : 19 ≤ n := by omega
  have hLw : IntKind.i64.wrap (L : Int) = (L : Int) := by simp [IntKind.wrap, IntKind.bits, IntKind.signed]; omega
  have HS := Lib.hid hS
  have HTN := Lib.hid hTn
  clear hS hTn hb hx hy h37 h8 hL hn ld bv0 bv1 bv2 bv3 bv4
  go_enter Tryd.func17, Tryd.ntmps17
  go_wp2_with fail
  refine wp_head_tail 14 [false, false, false, false, true, true, false, false, false, false, false, false, false, false] (fun _ => True) (by kernel_rfl) (by kernel_rfl) (fun _ _ d _ _ h => by cases d <;> exact h) trivial ?_
  simp only [List.take_succ_cons, List.take_zero, List.drop_succ_cons, List.drop_zero]
  iterate 4 (refine wpHead_step (fun K hK => ?_) trivial; go_simp; refine hK _ _ trivial ?_; clear hK K)
  refine wpHead_take' (.string b) rfl (fun W hW => by go_simp) ?_
  simp only [Act.put, List.setIfInBounds_toArray, List.set_cons_succ, List.set_cons_zero]
  refine wpHead_take' (.string x) rfl (fun W hW => by go_simp) ?_
  simp only [Act.put, List.setIfInBounds_toArray, List.set_cons_succ, List.set_cons_zero]
  iterate 8 (refine wpHead_step (fun K hK => ?_) trivial; go_simp; refine hK _ _ trivial ?_; clear hK K)
  refine wpHead_nil ?_
  go_wp2_with fail
  refine wp_head_tail 24 [true, true, true, true, true, true, true, true, true, true, true, true, true, true, true, true, true, true, true, true, true, true, true, false] (fun _ => True) (by kernel_rfl) (by kernel_rfl) (fun _ _ d _ _ h => by cases d <;> exact h) trivial ?_
  simp only [List.take_succ_cons, List.take_zero, List.drop_succ_cons, List.drop_zero]
  refine wpHead_take (.string b) rfl (fun W hW => by go_simp) ?_
  simp only [Act.put, List.setIfInBounds_toArray, List.set_cons_succ, List.set_cons_zero]
  refine wpHead_take (.string x) rfl (fun W hW => by go_simp) ?_
  simp only [Act.put, List.setIfInBounds_toArray, List.set_cons_succ, List.set_cons_zero]
  refine wpHead_call (.int .u64 (v0 : Int)) 51 #[.string x] rfl (fun W => by go_simp) (fun W hW => (gv0 W).out.mono fun e w'' h => ⟨h.1, h.2.symm⟩) ?_
  simp only [Act.put, List.setIfInBounds_toArray, List.set_cons_succ, List.set_cons_zero]
  refine wpHead_take (.string b) rfl (fun W hW => by go_simp) ?_
  simp only [Act.put, List.setIfInBounds_toArray, List.set_cons_succ, List.set_cons_zero]
  refine wpHead_take (.string ⟨sv1.toArray⟩) rfl (fun W hW => by go_simp) ?_
  simp only [Act.put, List.setIfInBounds_toArray, List.set_cons_succ, List.set_cons_zero]
  refine wpHead_call (.int .u64 (v1 : Int)) 51 #[.string ⟨sv1.toArray⟩] rfl (fun W => by go_simp) (fun W hW => (gv1 W).out.mono fun e w'' h => ⟨h.1, h.2.symm⟩) ?_
  simp only [Act.put, List.setIfInBounds_toArray, List.set_cons_succ, List.set_cons_zero]
  refine wpHead_take (.int .i64 (v1 : Int)) rfl (fun W hW => by go_simp) ?_
  simp only [Act.put, List.setIfInBounds_toArray, List.set_cons_succ, List.set_cons_zero]
  refine wpHead_take (.string b) rfl (fun W hW => by go_simp) ?_
  simp only [Act.put, List.setIfInBounds_toArray, List.set_cons_succ, List.set_cons_zero]
  refine wpHead_take (.string ⟨sv2.toArray⟩) rfl (fun W hW => by go_simp) ?_
  simp only [Act.put, List.setIfInBounds_toArray, List.set_cons_succ, List.set_cons_zero]
  refine wpHead_call (.int .u64 (v2 : Int)) 51 #[.string ⟨sv2.toArray⟩] rfl (fun W => by go_simp) (fun W hW => (gv2 W).out.mono fun e w'' h => ⟨h.1, h.2.symm⟩) ?_
  simp only [Act.put, List.setIfInBounds_toArray, List.set_cons_succ, List.set_cons_zero]
  refine wpHead_take (.int .i64 (v2 : Int)) rfl (fun W hW => by go_simp) ?_
  simp only [Act.put, List.setIfInBounds_toArray, List.set_cons_succ, List.set_cons_zero]
  refine wpHead_take (.string b) rfl (fun W hW => by go_simp) ?_
  simp only [Act.put, List.setIfInBounds_toArray, List.set_cons_succ, List.set_cons_zero]
  refine wpHead_take (.string ⟨sv3.toArray⟩) rfl (fun W hW => by go_simp) ?_
  simp only [Act.put, List.setIfInBounds_toArray, List.set_cons_succ, List.set_cons_zero]
  refine wpHead_call (.int .u64 (v3 : Int)) 51 #[.string ⟨sv3.toArray⟩] rfl (fun W => by go_simp) (fun W hW => (gv3 W).out.mono fun e w'' h => ⟨h.1, h.2.symm⟩) ?_
  simp only [Act.put, List.setIfInBounds_toArray, List.set_cons_succ, List.set_cons_zero]
  refine wpHead_take (.int .i64 (v3 : Int)) rfl (fun W hW => by go_simp) ?_
  simp only [Act.put, List.setIfInBounds_toArray, List.set_cons_succ, List.set_cons_zero]
  refine wpHead_take (.string b) rfl (fun W hW => by go_simp) ?_
  simp only [Act.put, List.setIfInBounds_toArray, List.set_cons_succ, List.set_cons_zero]
  refine wpHead_take (.string ⟨sv4.toArray⟩) rfl (fun W hW => by go_simp) ?_
  simp only [Act.put, List.setIfInBounds_toArray, List.set_cons_succ, List.set_cons_zero]
  refine wpHead_call (.int .u64 (v4 : Int)) 51 #[.string ⟨sv4.toArray⟩] rfl (fun W => by go_simp) (fun W hW => (gv4 W).out.mono fun e w'' h => ⟨h.1, h.2.symm⟩) ?_
  simp only [Act.put, List.setIfInBounds_toArray, List.set_cons_succ, List.set_cons_zero]
  refine wpHead_take (.int .i64 (v4 : Int)) rfl (fun W hW => by go_simp) ?_
  simp only [Act.put, List.setIfInBounds_toArray, List.set_cons_succ, List.set_cons_zero]
  refine wpHead_take (.string b) rfl (fun W hW => by go_simp) ?_
  simp only [Act.put, List.setIfInBounds_toArray, List.set_cons_succ, List.set_cons_zero]
  refine wpHead_take (.int .i64 (n : Int)) rfl (fun W hW => by go_simp) ?_
  simp only [Act.put, List.setIfInBounds_toArray, List.set_cons_succ, List.set_cons_zero]
  refine wpHead_take (.string ⟨da.toArray⟩) rfl (fun W hW => by go_simp) ?_
  simp only [Act.put, List.setIfInBounds_toArray, List.set_cons_succ, List.set_cons_zero]
  refine wpHead_take (.agg #[.int .u64 (v0 : Int), .int .i64 (v1 : Int), .int .i64 (v2 : Int), .int .i64 (v3 : Int), .int .i64 (v4 : Int), .string ⟨da.toArray⟩]) rfl (fun W hW => by go_simp) ?_
  simp only [Act.put, List.setIfInBounds_toArray, List.set_cons_succ, List.set_cons_zero]
  refine wpHead_force rfl (fun K hK => ?_)
  go_simp
  refine hK _ _ trivial ?_
  clear hK K
  refine wpHead_nil ?_
  have f1 : (((w.alloc (.cells z6 24)).alloc (.cells z6 24)).drew.drew).heap[w.heap.size + 1]? = some (.cells z6 24 (0, 0)) := by
    have := heap_alloc_new (w.alloc (.cells z6 24)) (.cells z6 24)
    rw [World.size_alloc] at this
    exact this
  have f0 : (((w.alloc (.cells z6 24)).alloc (.cells z6 24)).drew.drew).heap[w.heap.size]? = some (.cells z6 24 (0, 0)) :=
    (Below.heap_alloc (w.alloc (.cells z6 24)) _ _ (by simp)).trans (heap_alloc_new w _)
  have hB0 : Below w.heap.size w (((w.alloc (.cells z6 24)).alloc (.cells z6 24)).drew.drew) := (((Below.refl _ _).alloc (Nat.le_refl _) _).alloc (by simp) _).drew.drew
  change wpList _ _ _ _ _ (((w.alloc (.cells z6 24)).alloc (.cells z6 24)).drew.drew)
  generalize ((w.alloc (.cells z6 24)).alloc (.cells z6 24)).drew.drew = W at f0 f1 hB0 ⊢
  have HB0 := Lib.hid hB0
  have F0 := Lib.hid f0
  have F1 := Lib.hid f1
  clear f0 f1 hB0
  refine wpList_store_at rfl 24 _ _ rfl (w.heap.size + 1) 0 #[.int .u64 (v0 : Int), .int .i64 (v1 : Int), .int .i64 (v2 : Int), .int .i64 (v3 : Int), .int .i64 (v4 : Int), .string ⟨da.toArray⟩] rfl rfl 24 z6 F1.out (by kernel_rfl) (Nat.le_refl 6) (pc_one v0 v1 v2 v3 v4 da) ?_
  change wpList _ _ _ _ _ (W.setRow (w.heap.size + 1) #[.int .u64 (v0 : Int), .int .i64 (v1 : Int), .int .i64 (v2 : Int), .int .i64 (v3 : Int), .int .i64 (v4 : Int), .string ⟨da.toArray⟩])
  have g1 : (W.setRow (w.heap.size + 1) #[.int .u64 (v0 : Int), .int .i64 (v1 : Int), .int .i64 (v2 : Int), .int .i64 (v3 : Int), .int .i64 (v4 : Int), .string ⟨da.toArray⟩]).heap[w.heap.size + 1]? = some (.cells #[.int .u64 (v0 : Int), .int .i64 (v1 : Int), .int .i64 (v2 : Int), .int .i64 (v3 : Int), .int .i64 (v4 : Int), .string ⟨da.toArray⟩] 24 (0, 0)) := setRow_heap _ _ _ _ _ _ F1.out
  have g0 : (W.setRow (w.heap.size + 1) #[.int .u64 (v0 : Int), .int .i64 (v1 : Int), .int .i64 (v2 : Int), .int .i64 (v3 : Int), .int .i64 (v4 : Int), .string ⟨da.toArray⟩]).heap[w.heap.size]? = some (.cells z6 24 (0, 0)) := (setRow_other _ _ _ _ (by omega)).trans F0.out
  have hBV : Below w.heap.size w (W.setRow (w.heap.size + 1) #[.int .u64 (v0 : Int), .int .i64 (v1 : Int), .int .i64 (v2 : Int), .int .i64 (v3 : Int), .int .i64 (v4 : Int), .string ⟨da.toArray⟩]) := ((Fr.of_below (F := fun _ => False) HB0.out).setRow (g := w.heap.size + 1) (.inr (by omega)) _).below (Nat.le_refl _) (fun _ h => h.elim)
  generalize W.setRow (w.heap.size + 1) #[.int .u64 (v0 : Int), .int .i64 (v1 : Int), .int .i64 (v2 : Int), .int .i64 (v3 : Int), .int .i64 (v4 : Int), .string ⟨da.toArray⟩] = V at g1 g0 hBV ⊢
  have G1 := Lib.hid g1
  have G0 := Lib.hid g0
  have HBV := Lib.hid hBV
  have kk := block_cell g1
  have k0 : V.cell? ⟨w.heap.size + 1, 0, none⟩ = some (.int .u64 (v0 : Int)) := kk 0
  have k1 : V.cell? ⟨w.heap.size + 1, 1, none⟩ = some (.int .i64 (v1 : Int)) := kk 1
  have k2 : V.cell? ⟨w.heap.size + 1, 2, none⟩ = some (.int .i64 (v2 : Int)) := kk 2
  have k3 : V.cell? ⟨w.heap.size + 1, 3, none⟩ = some (.int .i64 (v3 : Int)) := kk 3
  have k4 : V.cell? ⟨w.heap.size + 1, 4, none⟩ = some (.int .i64 (v4 : Int)) := kk 4
  have k5 : V.cell? ⟨w.heap.size + 1, 5, none⟩ = some (.string ⟨da.toArray⟩) := kk 5
  clear g1 g0 hBV kk HB0 F0 F1
  rcases hr : Pc.right ⟨v0, v1, v2, v3, v4, da⟩ with _ | _
  · rw [hr] at HR
    have HRR := Lib.hid hr
    clear hr
    go_wp2_with fail
    refine (HR _).out.mono ?_
    rintro e w3 ⟨rfl, hB3⟩
    have G3 := Lib.hid ((hB3.block _ (block_lt G0.out)).trans G0.out)
    have HB3 := Lib.hid (HBV.out.trans (hB3.mono HBV.out.size))
    clear hB3
    dsimp only
    repeat (first | (go_big_may; (with_reducible refine wpList_store_pc rfl _ _ rfl w.heap.size #[.int .u64 0, .int .i64 0, .int .i64 0, .int .i64 0, .int .i64 0, .string ⟨#[]⟩] z6 ?_ ?_ G3.out zz_size z6_size z6_one ?_); (· rfl); (· rfl); intro w5 hq hf; have HQ := Lib.hid hq; have HF := Lib.hid hf; clear hq hf) | go_values | go_skip | go_guarded | go_step | go_upon)
    refine ret_cell rfl w.heap.size 24 z6 (0, 0) _ rfl HQ.out Tryd.underlying24 rfl (by kernel_rfl) rfl ?_
    have hnone : readS s = none := by rw [HS.out, if_neg (by rw [HRR.out]; simp)]
    rw [hnone]
    exact ⟨rfl, HB3.out.trans (HF.out.below HB3.out.size (fun k hk => by subst hk; exact Nat.le_refl _))⟩
  · rw [hr] at HR
    have HRR := Lib.hid hr
    clear hr
    go_wp2_with fail
    refine (HR _).out.mono ?_
    rintro e w3 ⟨rfl, hB3⟩
    have G3 := Lib.hid ((hB3.block _ (block_lt G0.out)).trans G0.out)
    have P3 := Lib.hid ((hB3.block _ (block_lt G1.out)).trans G1.out)
    have HB3 := Lib.hid (HBV.out.trans (hB3.mono HBV.out.size))
    clear hB3 k0 k1 k2 k3 k4 k5
    go_wp2_with fail
    refine (hT _).out.mono ?_
    rintro e w4 ⟨rfl, hB4⟩
    have G4 := Lib.hid ((hB4.block _ (block_lt G3.out)).trans G3.out)
    have P4 := (hB4.block _ (block_lt P3.out)).trans P3.out
    have HB4 := Lib.hid (HB3.out.trans (hB4.mono HB3.out.size))
    have kk := block_cell P4
    have k0 : w4.cell? ⟨w.heap.size + 1, 0, none⟩ = some (.int .u64 (v0 : Int)) := kk 0
    have k1 : w4.cell? ⟨w.heap.size + 1, 1, none⟩ = some (.int .i64 (v1 : Int)) := kk 1
    have k2 : w4.cell? ⟨w.heap.size + 1, 2, none⟩ = some (.int .i64 (v2 : Int)) := kk 2
    have k3 : w4.cell? ⟨w.heap.size + 1, 3, none⟩ = some (.int .i64 (v3 : Int)) := kk 3
    have k4 : w4.cell? ⟨w.heap.size + 1, 4, none⟩ = some (.int .i64 (v4 : Int)) := kk 4
    have k5 : w4.cell? ⟨w.heap.size + 1, 5, none⟩ = some (.string ⟨da.toArray⟩) := kk 5
    clear hB4 kk P4
    by_cases ht : trimL tl = []
    · have HT := Lib.hid ht
      have hE : (trimL tl).isEmpty = true := by rw [ht]; rfl
      clear ht
      dsimp only
      repeat (first | (go_big_may; (with_reducible refine wpList_store_pc rfl _ _ rfl w.heap.size #[.int .u64 (v0 : Int), .int .i64 (v1 : Int), .int .i64 (v2 : Int), .int .i64 (v3 : Int), .int .i64 (v4 : Int), .string ⟨da.toArray⟩] z6 ?_ ?_ G4.out (pc_size v0 v1 v2 v3 v4 da) z6_size (pc_one v0 v1 v2 v3 v4 da) ?_); (· rfl); (· rfl); intro w5 hq hf; have HQ := Lib.hid hq; have HF := Lib.hid hf; clear hq hf) | go_values | go_skip | go_guarded | go_step | go_upon)
      refine ret_cell rfl w.heap.size 24 #[.int .u64 (v0 : Int), .int .i64 (v1 : Int), .int .i64 (v2 : Int), .int .i64 (v3 : Int), .int .i64 (v4 : Int), .string ⟨da.toArray⟩] (0, 0) _ rfl HQ.out Tryd.underlying24 rfl (by kernel_rfl) rfl ?_
      have hsome : readS s = some ⟨v0, v1, v2, v3, v4, da⟩ := by rw [HS.out, if_pos ⟨HRR.out, HTN.out.1 HT.out⟩]
      rw [hsome]
      exact ⟨rfl, HB4.out.trans (HF.out.below HB4.out.size (fun k hk => by subst hk; exact Nat.le_refl _))⟩
    · have HT := Lib.hid ht
      have hE : (trimL tl).isEmpty = false := by cases hq : trimL tl; exact absurd hq ht; rfl
      clear ht
      dsimp only
      repeat (first | (go_big_may; (with_reducible refine wpList_store_pc rfl _ _ rfl w.heap.size #[.int .u64 0, .int .i64 0, .int .i64 0, .int .i64 0, .int .i64 0, .string ⟨#[]⟩] z6 ?_ ?_ G4.out zz_size z6_size z6_one ?_); (· rfl); (· rfl); intro w5 hq hf; have HQ := Lib.hid hq; have HF := Lib.hid hf; clear hq hf) | go_values | go_skip | go_guarded | go_step | go_upon)
      refine ret_cell rfl w.heap.size 24 z6 (0, 0) _ rfl HQ.out Tryd.underlying24 rfl (by kernel_rfl) rfl ?_
      have hnone : readS s = none := by rw [HS.out, if_neg (fun hh => HT.out (HTN.out.2 hh.2))]
      rw [hnone]
      exact ⟨rfl, HB4.out.trans (HF.out.below HB4.out.size (fun k hk => by subst hk; exact Nat.le_refl _))⟩
end Go.Proofs.YtbdhicjebeoakaaDoor
