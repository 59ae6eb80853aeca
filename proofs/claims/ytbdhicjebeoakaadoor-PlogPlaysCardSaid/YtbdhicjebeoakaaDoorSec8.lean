/- The reference's Read. -/
import Derived.Test.YtbdhicjebeoakaaDoorSec7
import Derived.Test.YtbdhicjebeoakaaDoorSec4
set_option linter.unusedVariables false
set_option linter.unusedSimpArgs false
namespace Go.Proofs.YtbdhicjebeoakaaDoor
open Go.RowKit

theorem size_rpiece : (Tryd.prog.info? 30).map (·.size) = some 6 := by kernel_rfl
theorem wpList_store_rpc {ops : Array Oper} {rest : List Oper} {o : Oper} {a : Act} {w : World} {Q : Exit → Act → World → Prop} (hgd : o.guard = none) (x y : Operand) (ho : o.op = .store 30 x y)
    (g : Nat) (cs old : Array Value) (hx : a.eval x = .pointer (some ⟨g, 0, none⟩)) (hy : a.eval y = .agg cs) (hg : w.heap[g]? = some (.cells old 30 (0, 0))) (h6 : cs.size = 6) (ho6 : old.size = 6) (h1 : ∀ v ∈ cs.toList, v.oneCell' = true)
    (h : ∀ w', w'.heap[g]? = some (.cells cs 30 (0, 0)) → Fr (fun k => k = g) w w' → wpList Tryd.prog ops Q rest (a.put o.dst undef) w') : wpList Tryd.prog ops Q (o :: rest) a w := by
  refine wpList_store_at hgd 30 x y ho g 0 cs hx hy 30 old hg (by rw [h6]; exact size_rpiece) (by omega) h1 ?_
  have e : (old.toList.take 0 ++ cs.toList ++ old.toList.drop (0 + cs.size)).toArray = cs := by
    rw [List.drop_of_length_le (by simp; omega)]; simp
  rw [e]
  exact h _ (setRow_heap _ _ _ _ _ _ hg) ((Fr.refl (fun k => k = g) w).setRow (g := g) (.inl rfl) cs)
set_option maxRecDepth 20000 in
theorem rread_len (s : List UInt8) (w : World) (h : s.length ≠ 64) (hl : s.length ≤ 9223372036854775807) :
    Calls Tryd.prog 18 #[.string ⟨s.toArray⟩] w fun e w' => e = .returned (.tuple #[.agg z6, .bool false]) ∧ Below w.heap.size w w' := by
  have hsz : (⟨s.toArray⟩ : ByteArray).size = s.length := by simp [ByteArray.size]
  have hne : ((s.length : Int) != 64) = true := by simp; omega
  clear h
  go_enter Tryd.func18, Tryd.ntmps18
  go_wp2_with fail
  refine ret_cell rfl w.heap.size 30 z6 (0, 0) _ rfl (heap_alloc_new w _) Tryd.underlying30 rfl (by kernel_rfl) rfl ?_
  exact ⟨rfl, ((Below.refl _ _).alloc (Nat.le_refl _) _)⟩
set_option maxRecDepth 20000 in
theorem rread_long (s : List UInt8) (w : World) (h : s.length = 64) (h37 : 37 < (s.getD 18 0).toNat) :
    Calls Tryd.prog 18 #[.string ⟨s.toArray⟩] w fun e w' => e = .returned (.tuple #[.agg z6, .bool false]) ∧ Below w.heap.size w w' := by
  have hsz : (⟨s.toArray⟩ : ByteArray).size = 64 := by simp [ByteArray.size, h]
  obtain ⟨L, hL⟩ : ∃ L : Nat, (s.getD 18 0).toNat = L := ⟨_, rfl⟩
  obtain ⟨b, hb⟩ : ∃ b : ByteArray, b = ⟨s.toArray⟩ := ⟨_, rfl⟩
  rw [← hb] at hsz ⊢
  have hidx : (b[18]'(by rw [hsz]; omega)).toNat = L := by
    subst hb
    rw [← hL, List.getD_eq_getElem?_getD, List.getElem?_eq_getElem (by omega)]
    rfl
  have hl : ((37 : Int) < (L : Int)) = True := by simp only [eq_iff_iff, iff_true]; omega
  clear hb hL h37
  go_enter Tryd.func18, Tryd.ntmps18
  go_wp2_with fail
  refine ret_cell rfl w.heap.size 30 z6 (0, 0) _ rfl (heap_alloc_new w _) Tryd.underlying30 rfl (by kernel_rfl) rfl ?_
  exact ⟨rfl, ((Below.refl _ _).alloc (Nat.le_refl _) _)⟩
set_option maxRecDepth 20000 in
set_option maxHeartbeats 1000000 in
theorem rread_body (s : List UInt8) (w : World) (h : s.length = 64) (h37 : ¬ 37 < (s.getD 18 0).toNat) :
    Calls Tryd.prog 18 #[.string ⟨s.toArray⟩] w fun e w' => e = .returned (.tuple #[.agg (pcV ((readR s).getD Pc.zero)), .bool (readR s).isSome]) ∧ Below w.heap.size w w' := by
  have hsz : (⟨s.toArray⟩ : ByteArray).size = 64 := by simp [ByteArray.size, h]
  obtain ⟨L, hL⟩ : ∃ L : Nat, (s.getD 18 0).toNat = L := ⟨_, rfl⟩
  obtain ⟨b, hb⟩ : ∃ b : ByteArray, b = ⟨s.toArray⟩ := ⟨_, rfl⟩
  rw [← hb] at hsz ⊢
  have hidx : (b[18]'(by rw [hsz]; omega)).toNat = L := by
    subst hb
    rw [← hL, List.getD_eq_getElem?_getD, List.getElem?_eq_getElem (by omega)]
    rfl
  have hl : ((37 : Int) < (L : Int)) = False := by simp only [eq_iff_iff, iff_false]; omega
  obtain ⟨n, hn⟩ : ∃ n : Nat, n = 19 + L := ⟨_, rfl⟩
  have hP0 : pieceOf s = ⟨valL (sub s 0 8), valL (sub s 8 12), valL (sub s 12 14), valL (sub s 14 16), valL (sub s 16 18), sub s 19 n⟩ := by rw [hn, ← hL]; rfl
  have hS : readR s = if (pieceOf s).right = true ∧ (pieceOf s).print = s then some (pieceOf s) else none := by
    unfold readR
    rw [if_neg (fun hh => by rcases hh with hh | hh; exact hh h; exact h37 hh)]
  rw [hP0] at hS
  clear hP0
  have qv0 : b.extract 0 8 = ⟨(sub s 0 8).toArray⟩ := by rw [hb, ext_sub]
  have gv0 := fun W => Lib.hid (value_any (sub s 0 8) (by rw [sub_length s _ _ (by omega)]; omega) W)
  have bv0 := valL_lt (sub s 0 8)
  rw [sub_length s _ _ (by omega)] at bv0
  generalize valL (sub s 0 8) = v0 at gv0 bv0 hS
  generalize sub s 0 8 = sv0 at qv0 gv0
  have qv1 : b.extract 8 12 = ⟨(sub s 8 12).toArray⟩ := by rw [hb, ext_sub]
  have gv1 := fun W => Lib.hid (value_any (sub s 8 12) (by rw [sub_length s _ _ (by omega)]; omega) W)
  have bv1 := valL_lt (sub s 8 12)
  rw [sub_length s _ _ (by omega)] at bv1
  generalize valL (sub s 8 12) = v1 at gv1 bv1 hS
  generalize sub s 8 12 = sv1 at qv1 gv1
  have wv1 : IntKind.i64.wrap (v1 : Int) = (v1 : Int) := by simp [IntKind.wrap, IntKind.bits, IntKind.signed]; omega
  have qv2 : b.extract 12 14 = ⟨(sub s 12 14).toArray⟩ := by rw [hb, ext_sub]
  have gv2 := fun W => Lib.hid (value_any (sub s 12 14) (by rw [sub_length s _ _ (by omega)]; omega) W)
  have bv2 := valL_lt (sub s 12 14)
  rw [sub_length s _ _ (by omega)] at bv2
  generalize valL (sub s 12 14) = v2 at gv2 bv2 hS
  generalize sub s 12 14 = sv2 at qv2 gv2
  have wv2 : IntKind.i64.wrap (v2 : Int) = (v2 : Int) := by simp [IntKind.wrap, IntKind.bits, IntKind.signed]; omega
  have qv3 : b.extract 14 16 = ⟨(sub s 14 16).toArray⟩ := by rw [hb, ext_sub]
  have gv3 := fun W => Lib.hid (value_any (sub s 14 16) (by rw [sub_length s _ _ (by omega)]; omega) W)
  have bv3 := valL_lt (sub s 14 16)
  rw [sub_length s _ _ (by omega)] at bv3
  generalize valL (sub s 14 16) = v3 at gv3 bv3 hS
  generalize sub s 14 16 = sv3 at qv3 gv3
  have wv3 : IntKind.i64.wrap (v3 : Int) = (v3 : Int) := by simp [IntKind.wrap, IntKind.bits, IntKind.signed]; omega
  have qv4 : b.extract 16 18 = ⟨(sub s 16 18).toArray⟩ := by rw [hb, ext_sub]
  have gv4 := fun W => Lib.hid (value_any (sub s 16 18) (by rw [sub_length s _ _ (by omega)]; omega) W)
  have bv4 := valL_lt (sub s 16 18)
  rw [sub_length s _ _ (by omega)] at bv4
  generalize valL (sub s 16 18) = v4 at gv4 bv4 hS
  generalize sub s 16 18 = sv4 at qv4 gv4
  have wv4 : IntKind.i64.wrap (v4 : Int) = (v4 : Int) := by simp [IntKind.wrap, IntKind.bits, IntKind.signed]; omega
  have qd : b.extract 19 n = ⟨(sub s 19 n).toArray⟩ := by rw [hb, ext_sub]
  have ld := sub_length s 19 n (by omega)
  have hsl : ∀ W : World, (Instr.slice 9 (.string b) (some (.int .i64 19)) (some (.int .i64 (n : Int))) none).run Tryd.prog W = .ok (.string ⟨(sub s 19 n).toArray⟩) W := fun W => by
    rw [← qd]
    exact run_slice_string (P := Tryd.prog) W 9 b .i64 .i64 19 (n : Int) Tryd.underlying9 (by omega) (by omega) (by rw [hsz]; omega)
  clear qd
  generalize sub s 19 n = da at hsl hS ld
  have HR := fun W => Lib.hid (rright_any v0 v1 v2 v3 v4 da W (by omega))
  have HP := fun hr W => Lib.hid (rprint_ok v0 v1 v2 v3 v4 da W hr (by omega))
  have hpq : ((⟨(Pc.print ⟨v0, v1, v2, v3, v4, da⟩).toArray⟩ : ByteArray).toList == b.toList) = decide (Pc.print ⟨v0, v1, v2, v3, v4, da⟩ = s) := by
    rw [Bool.eq_iff_iff, hb, ByteArray.toList_eq, ByteArray.toList_eq]; simp
  generalize (⟨(Pc.print ⟨v0, v1, v2, v3, v4, da⟩).toArray⟩ : ByteArray) = pb at HP hpq
  have hn1 : (19 : Int) + (L : Int) = (n : Int) := by omega
  have hn2 : n ≤ 56 := by omega
  have hn3 : 19 ≤ n := by omega
  have hLw : IntKind.i64.wrap (L : Int) = (L : Int) := by simp [IntKind.wrap, IntKind.bits, IntKind.signed]; omega
  have hnw : IntKind.i64.wrap (n : Int) = (n : Int) := by simp [IntKind.wrap, IntKind.bits, IntKind.signed]; omega
  have HS := Lib.hid hS
  have HPQ := Lib.hid hpq
  clear hS hb hpq h37 hL hn ld bv0 bv1 bv2 bv3 bv4
  go_enter Tryd.func18, Tryd.ntmps18
  go_wp2_with fail
  refine wp_head_tail 27 [true, true, true, true, true, true, true, true, true, true, true, true, true, true, true, true, true, true, true, true, true, true, true, true, true, true, false] (fun _ => True) (by kernel_rfl) (by kernel_rfl) (fun _ _ d _ _ h => by cases d <;> exact h) trivial ?_
  simp only [List.take_succ_cons, List.take_zero, List.drop_succ_cons, List.drop_zero]
  refine wpHead_take (.string b) rfl (fun W hW => by go_simp) ?_
  simp only [Act.put, List.setIfInBounds_toArray, List.set_cons_succ, List.set_cons_zero]
  refine wpHead_take (.string ⟨sv0.toArray⟩) rfl (fun W hW => by go_simp) ?_
  simp only [Act.put, List.setIfInBounds_toArray, List.set_cons_succ, List.set_cons_zero]
  refine wpHead_call (.int .u64 (v0 : Int)) 53 #[.string ⟨sv0.toArray⟩] rfl (fun W => by go_simp) (fun W hW => (gv0 W).out.mono fun e w'' h => ⟨h.1, h.2.symm⟩) ?_
  simp only [Act.put, List.setIfInBounds_toArray, List.set_cons_succ, List.set_cons_zero]
  refine wpHead_take (.string b) rfl (fun W hW => by go_simp) ?_
  simp only [Act.put, List.setIfInBounds_toArray, List.set_cons_succ, List.set_cons_zero]
  refine wpHead_take (.string ⟨sv1.toArray⟩) rfl (fun W hW => by go_simp) ?_
  simp only [Act.put, List.setIfInBounds_toArray, List.set_cons_succ, List.set_cons_zero]
  refine wpHead_call (.int .u64 (v1 : Int)) 53 #[.string ⟨sv1.toArray⟩] rfl (fun W => by go_simp) (fun W hW => (gv1 W).out.mono fun e w'' h => ⟨h.1, h.2.symm⟩) ?_
  simp only [Act.put, List.setIfInBounds_toArray, List.set_cons_succ, List.set_cons_zero]
  refine wpHead_take (.int .i64 (v1 : Int)) rfl (fun W hW => by go_simp) ?_
  simp only [Act.put, List.setIfInBounds_toArray, List.set_cons_succ, List.set_cons_zero]
  refine wpHead_take (.string b) rfl (fun W hW => by go_simp) ?_
  simp only [Act.put, List.setIfInBounds_toArray, List.set_cons_succ, List.set_cons_zero]
  refine wpHead_take (.string ⟨sv2.toArray⟩) rfl (fun W hW => by go_simp) ?_
  simp only [Act.put, List.setIfInBounds_toArray, List.set_cons_succ, List.set_cons_zero]
  refine wpHead_call (.int .u64 (v2 : Int)) 53 #[.string ⟨sv2.toArray⟩] rfl (fun W => by go_simp) (fun W hW => (gv2 W).out.mono fun e w'' h => ⟨h.1, h.2.symm⟩) ?_
  simp only [Act.put, List.setIfInBounds_toArray, List.set_cons_succ, List.set_cons_zero]
  refine wpHead_take (.int .i64 (v2 : Int)) rfl (fun W hW => by go_simp) ?_
  simp only [Act.put, List.setIfInBounds_toArray, List.set_cons_succ, List.set_cons_zero]
  refine wpHead_take (.string b) rfl (fun W hW => by go_simp) ?_
  simp only [Act.put, List.setIfInBounds_toArray, List.set_cons_succ, List.set_cons_zero]
  refine wpHead_take (.string ⟨sv3.toArray⟩) rfl (fun W hW => by go_simp) ?_
  simp only [Act.put, List.setIfInBounds_toArray, List.set_cons_succ, List.set_cons_zero]
  refine wpHead_call (.int .u64 (v3 : Int)) 53 #[.string ⟨sv3.toArray⟩] rfl (fun W => by go_simp) (fun W hW => (gv3 W).out.mono fun e w'' h => ⟨h.1, h.2.symm⟩) ?_
  simp only [Act.put, List.setIfInBounds_toArray, List.set_cons_succ, List.set_cons_zero]
  refine wpHead_take (.int .i64 (v3 : Int)) rfl (fun W hW => by go_simp) ?_
  simp only [Act.put, List.setIfInBounds_toArray, List.set_cons_succ, List.set_cons_zero]
  refine wpHead_take (.string b) rfl (fun W hW => by go_simp) ?_
  simp only [Act.put, List.setIfInBounds_toArray, List.set_cons_succ, List.set_cons_zero]
  refine wpHead_take (.string ⟨sv4.toArray⟩) rfl (fun W hW => by go_simp) ?_
  simp only [Act.put, List.setIfInBounds_toArray, List.set_cons_succ, List.set_cons_zero]
  refine wpHead_call (.int .u64 (v4 : Int)) 53 #[.string ⟨sv4.toArray⟩] rfl (fun W => by go_simp) (fun W hW => (gv4 W).out.mono fun e w'' h => ⟨h.1, h.2.symm⟩) ?_
  simp only [Act.put, List.setIfInBounds_toArray, List.set_cons_succ, List.set_cons_zero]
  refine wpHead_take (.int .i64 (v4 : Int)) rfl (fun W hW => by go_simp) ?_
  simp only [Act.put, List.setIfInBounds_toArray, List.set_cons_succ, List.set_cons_zero]
  refine wpHead_take (.string b) rfl (fun W hW => by go_simp) ?_
  simp only [Act.put, List.setIfInBounds_toArray, List.set_cons_succ, List.set_cons_zero]
  refine wpHead_take (.string b) rfl (fun W hW => by go_simp) ?_
  simp only [Act.put, List.setIfInBounds_toArray, List.set_cons_succ, List.set_cons_zero]
  refine wpHead_take (.int .u8 (L : Int)) rfl (fun W hW => by go_simp) ?_
  simp only [Act.put, List.setIfInBounds_toArray, List.set_cons_succ, List.set_cons_zero]
  refine wpHead_take (.int .i64 (L : Int)) rfl (fun W hW => by go_simp) ?_
  simp only [Act.put, List.setIfInBounds_toArray, List.set_cons_succ, List.set_cons_zero]
  refine wpHead_take (.int .i64 (n : Int)) rfl (fun W hW => by go_simp) ?_
  simp only [Act.put, List.setIfInBounds_toArray, List.set_cons_succ, List.set_cons_zero]
  refine wpHead_take (.string ⟨da.toArray⟩) rfl (fun W hW => by go_simp) ?_
  simp only [Act.put, List.setIfInBounds_toArray, List.set_cons_succ, List.set_cons_zero]
  refine wpHead_take (.agg #[.int .u64 (v0 : Int), .int .i64 (v1 : Int), .int .i64 (v2 : Int), .int .i64 (v3 : Int), .int .i64 (v4 : Int), .string ⟨da.toArray⟩]) rfl (fun W hW => by go_simp) ?_
  simp only [Act.put, List.setIfInBounds_toArray, List.set_cons_succ, List.set_cons_zero]
  refine wpHead_force rfl (fun K hK => ?_)
  go_simp
  refine hK _ _ trivial ?_
  clear hK K
  refine wpHead_nil ?_
  have f1 : (((w.alloc (.cells z6 30)).alloc (.cells z6 30)).drew).heap[w.heap.size + 1]? = some (.cells z6 30 (0, 0)) := by
    have := heap_alloc_new (w.alloc (.cells z6 30)) (.cells z6 30)
    rw [World.size_alloc] at this
    exact this
  have f0 : (((w.alloc (.cells z6 30)).alloc (.cells z6 30)).drew).heap[w.heap.size]? = some (.cells z6 30 (0, 0)) :=
    (Below.heap_alloc (w.alloc (.cells z6 30)) _ _ (by simp)).trans (heap_alloc_new w _)
  have hB0 : Below w.heap.size w (((w.alloc (.cells z6 30)).alloc (.cells z6 30)).drew) := (((Below.refl _ _).alloc (Nat.le_refl _) _).alloc (by simp) _).drew
  change wpList _ _ _ _ _ (((w.alloc (.cells z6 30)).alloc (.cells z6 30)).drew)
  generalize ((w.alloc (.cells z6 30)).alloc (.cells z6 30)).drew = W at f0 f1 hB0 ⊢
  have HB0 := Lib.hid hB0
  have F0 := Lib.hid f0
  have F1 := Lib.hid f1
  clear f0 f1 hB0
  refine wpList_store_at rfl 30 _ _ rfl (w.heap.size + 1) 0 #[.int .u64 (v0 : Int), .int .i64 (v1 : Int), .int .i64 (v2 : Int), .int .i64 (v3 : Int), .int .i64 (v4 : Int), .string ⟨da.toArray⟩] rfl rfl 30 z6 F1.out (by kernel_rfl) (Nat.le_refl 6) (pc_one v0 v1 v2 v3 v4 da) ?_
  change wpList _ _ _ _ _ (W.setRow (w.heap.size + 1) #[.int .u64 (v0 : Int), .int .i64 (v1 : Int), .int .i64 (v2 : Int), .int .i64 (v3 : Int), .int .i64 (v4 : Int), .string ⟨da.toArray⟩])
  have g1 : (W.setRow (w.heap.size + 1) #[.int .u64 (v0 : Int), .int .i64 (v1 : Int), .int .i64 (v2 : Int), .int .i64 (v3 : Int), .int .i64 (v4 : Int), .string ⟨da.toArray⟩]).heap[w.heap.size + 1]? = some (.cells #[.int .u64 (v0 : Int), .int .i64 (v1 : Int), .int .i64 (v2 : Int), .int .i64 (v3 : Int), .int .i64 (v4 : Int), .string ⟨da.toArray⟩] 30 (0, 0)) := setRow_heap _ _ _ _ _ _ F1.out
  have g0 : (W.setRow (w.heap.size + 1) #[.int .u64 (v0 : Int), .int .i64 (v1 : Int), .int .i64 (v2 : Int), .int .i64 (v3 : Int), .int .i64 (v4 : Int), .string ⟨da.toArray⟩]).heap[w.heap.size]? = some (.cells z6 30 (0, 0)) := (setRow_other _ _ _ _ (by omega)).trans F0.out
  have hBV : Below w.heap.size w (W.setRow (w.heap.size + 1) #[.int .u64 (v0 : Int), .int .i64 (v1 : Int), .int .i64 (v2 : Int), .int .i64 (v3 : Int), .int .i64 (v4 : Int), .string ⟨da.toArray⟩]) := ((Fr.of_below (F := fun _ => False) HB0.out).setRow (g := w.heap.size + 1) (.inr (by omega)) _).below (Nat.le_refl _) (fun _ h => h.elim)
  generalize W.setRow (w.heap.size + 1) #[.int .u64 (v0 : Int), .int .i64 (v1 : Int), .int .i64 (v2 : Int), .int .i64 (v3 : Int), .int .i64 (v4 : Int), .string ⟨da.toArray⟩] = V at g1 g0 hBV ⊢
  have G1 := Lib.hid g1
  have G0 := Lib.hid g0
  have HBV := Lib.hid hBV
  have kk := block_cell g1
  have k0 : V.cell? ⟨w.heap.size + 1, 0, none⟩ = some (.int .u64 (v0 : Int)) := kk 0
  have k1 : V.cell? ⟨w.heap.size + 1, 1, none⟩ = some (.int .i64 (v1 : Int)) := kk 1
  have k2 : V.cell? ⟨w.heap.size + 1, 2, none⟩ = some (.int .i64 (v2 : Int)) := kk 2
  have k3 : V.cell? ⟨w.heap.size + 1, 3, none⟩ = some (.int .i64 (v3 : Int)) := kk 3
  have k4 : V.cell? ⟨w.heap.size + 1, 4, none⟩ = some (.int .i64 (v4 : Int)) := kk 4
  have k5 : V.cell? ⟨w.heap.size + 1, 5, none⟩ = some (.string ⟨da.toArray⟩) := kk 5
  clear g1 g0 hBV kk HB0 F0 F1
  rcases hr : Pc.right ⟨v0, v1, v2, v3, v4, da⟩ with _ | _
  · rw [hr] at HR
    have HRR := Lib.hid hr
    clear hr
    go_wp2_with fail
    refine (HR _).out.mono ?_
    rintro e w3 ⟨rfl, hB3⟩
    have G3 := Lib.hid ((hB3.block _ (block_lt G0.out)).trans G0.out)
    have HB3 := Lib.hid (HBV.out.trans (hB3.mono HBV.out.size))
    clear hB3
    dsimp only
    repeat (first | (go_big_may; (with_reducible refine wpList_store_rpc rfl _ _ rfl w.heap.size #[.int .u64 0, .int .i64 0, .int .i64 0, .int .i64 0, .int .i64 0, .string ⟨#[]⟩] z6 ?_ ?_ G3.out zz_size z6_size z6_one ?_); (· rfl); (· rfl); intro w5 hq hf; have HQ := Lib.hid hq; have HF := Lib.hid hf; clear hq hf) | go_values | go_skip | go_guarded | go_step | go_upon)
    refine ret_cell rfl w.heap.size 30 z6 (0, 0) _ rfl HQ.out Tryd.underlying30 rfl (by kernel_rfl) rfl ?_
    have hnone : readR s = none := by rw [HS.out, if_neg (by rw [HRR.out]; simp)]
    rw [hnone]
    exact ⟨rfl, HB3.out.trans (HF.out.below HB3.out.size (fun k hk => by subst hk; exact Nat.le_refl _))⟩
  · rw [hr] at HR
    have HP := HP hr
    have HRR := Lib.hid hr
    clear hr
    go_wp2_with fail
    refine (HR _).out.mono ?_
    rintro e w3 ⟨rfl, hB3⟩
    have G3 := Lib.hid ((hB3.block _ (block_lt G0.out)).trans G0.out)
    have P3 := (hB3.block _ (block_lt G1.out)).trans G1.out
    have HB3 := Lib.hid (HBV.out.trans (hB3.mono HBV.out.size))
    have kk := block_cell P3
    clear hB3 k0 k1 k2 k3 k4 k5
    have k0 : w3.cell? ⟨w.heap.size + 1, 0, none⟩ = some (.int .u64 (v0 : Int)) := kk 0
    have k1 : w3.cell? ⟨w.heap.size + 1, 1, none⟩ = some (.int .i64 (v1 : Int)) := kk 1
    have k2 : w3.cell? ⟨w.heap.size + 1, 2, none⟩ = some (.int .i64 (v2 : Int)) := kk 2
    have k3 : w3.cell? ⟨w.heap.size + 1, 3, none⟩ = some (.int .i64 (v3 : Int)) := kk 3
    have k4 : w3.cell? ⟨w.heap.size + 1, 4, none⟩ = some (.int .i64 (v4 : Int)) := kk 4
    have k5 : w3.cell? ⟨w.heap.size + 1, 5, none⟩ = some (.string ⟨da.toArray⟩) := kk 5
    have P3 := Lib.hid P3
    clear kk
    dsimp only
    repeat (first | go_values | go_skip | go_guarded | go_step | go_upon)
    refine (HP _).out.mono ?_
    rintro e w4 ⟨rfl, hB4⟩
    have G4 := Lib.hid ((hB4.block _ (block_lt G3.out)).trans G3.out)
    have P4 := (hB4.block _ (block_lt P3.out)).trans P3.out
    have HB4 := Lib.hid (HB3.out.trans (hB4.mono HB3.out.size))
    have kk := block_cell P4
    clear hB4 P4 k0 k1 k2 k3 k4 k5
    have k0 : w4.cell? ⟨w.heap.size + 1, 0, none⟩ = some (.int .u64 (v0 : Int)) := kk 0
    have k1 : w4.cell? ⟨w.heap.size + 1, 1, none⟩ = some (.int .i64 (v1 : Int)) := kk 1
    have k2 : w4.cell? ⟨w.heap.size + 1, 2, none⟩ = some (.int .i64 (v2 : Int)) := kk 2
    have k3 : w4.cell? ⟨w.heap.size + 1, 3, none⟩ = some (.int .i64 (v3 : Int)) := kk 3
    have k4 : w4.cell? ⟨w.heap.size + 1, 4, none⟩ = some (.int .i64 (v4 : Int)) := kk 4
    have k5 : w4.cell? ⟨w.heap.size + 1, 5, none⟩ = some (.string ⟨da.toArray⟩) := kk 5
    clear kk
    by_cases ht : Pc.print ⟨v0, v1, v2, v3, v4, da⟩ = s
    · have hE := HPQ.out
      rw [decide_eq_true ht] at hE
      have HT := Lib.hid ht
      clear ht
      dsimp only
      repeat (first | (go_big_may; (with_reducible refine wpList_store_rpc rfl _ _ rfl w.heap.size #[.int .u64 (v0 : Int), .int .i64 (v1 : Int), .int .i64 (v2 : Int), .int .i64 (v3 : Int), .int .i64 (v4 : Int), .string ⟨da.toArray⟩] z6 ?_ ?_ G4.out (pc_size v0 v1 v2 v3 v4 da) z6_size (pc_one v0 v1 v2 v3 v4 da) ?_); (· rfl); (· rfl); intro w5 hq hf; have HQ := Lib.hid hq; have HF := Lib.hid hf; clear hq hf) | go_values | go_skip | go_guarded | go_step | go_upon)
      refine ret_cell rfl w.heap.size 30 #[.int .u64 (v0 : Int), .int .i64 (v1 : Int), .int .i64 (v2 : Int), .int .i64 (v3 : Int), .int .i64 (v4 : Int), .string ⟨da.toArray⟩] (0, 0) _ rfl HQ.out Tryd.underlying30 rfl (by kernel_rfl) rfl ?_
      have hsome : readR s = some ⟨v0, v1, v2, v3, v4, da⟩ := by rw [HS.out, if_pos ⟨HRR.out, HT.out⟩]
      rw [hsome]
      exact ⟨rfl, HB4.out.trans (HF.out.below HB4.out.size (fun k hk => by subst hk; exact Nat.le_refl _))⟩
    · have hE := HPQ.out
      rw [decide_eq_false ht] at hE
      have HT := Lib.hid ht
      clear ht
      dsimp only
      repeat (first | (go_big_may; (with_reducible refine wpList_store_rpc rfl _ _ rfl w.heap.size #[.int .u64 0, .int .i64 0, .int .i64 0, .int .i64 0, .int .i64 0, .string ⟨#[]⟩] z6 ?_ ?_ G4.out zz_size z6_size z6_one ?_); (· rfl); (· rfl); intro w5 hq hf; have HQ := Lib.hid hq; have HF := Lib.hid hf; clear hq hf) | go_values | go_skip | go_guarded | go_step | go_upon)
      refine ret_cell rfl w.heap.size 30 z6 (0, 0) _ rfl HQ.out Tryd.underlying30 rfl (by kernel_rfl) rfl ?_
      have hnone : readR s = none := by rw [HS.out, if_neg (fun hh => HT.out hh.2)]
      rw [hnone]
      exact ⟨rfl, HB4.out.trans (HF.out.below HB4.out.size (fun k hk => by subst hk; exact Nat.le_refl _))⟩
theorem z6_zero : z6 = pcV Pc.zero := rfl
theorem rread_any (s : List UInt8) (w : World) (hl : s.length ≤ 9223372036854775807) :
    Calls Tryd.prog 18 #[.string ⟨s.toArray⟩] w fun e w' => e = .returned (.tuple #[.agg (pcV ((readR s).getD Pc.zero)), .bool (readR s).isSome]) ∧ Below w.heap.size w w' := by
  by_cases h : s.length = 64
  · by_cases h37 : 37 < (s.getD 18 0).toNat
    · have e : readR s = none := by unfold readR; rw [if_pos (.inr h37)]
      rw [e]
      exact rread_long s w h h37
    · exact rread_body s w h h37
  · have e : readR s = none := by unfold readR; rw [if_pos (.inl h)]
    rw [e]
    exact rread_len s w h hl
theorem sread_any (s : List UInt8) (w : World) (hl : s.length ≤ 9223372036854775807) :
    Calls Tryd.prog 17 #[.string ⟨s.toArray⟩] w fun e w' => e = .returned (.tuple #[.agg (pcV ((readR s).getD Pc.zero)), .int .i64 (if (readR s).isSome then 0 else 3)]) ∧ Below w.heap.size w w' := by
  rw [← readS_eq]
  by_cases h : s.length = 64
  · by_cases h8 : sub s 0 8 = s.drop 56
    · by_cases h37 : 37 < (s.getD 18 0).toNat
      · have e : readS s = none := by unfold readS; rw [if_pos (.inr (.inr h37))]
        rw [e]
        exact sread_long s w h h8 h37
      · exact sread_body s w h h8 h37
    · have e : readS s = none := by unfold readS; rw [if_pos (.inr (.inl h8))]
      rw [e]
      exact sread_stamp s w h h8
  · have e : readS s = none := by unfold readS; rw [if_pos (.inl h)]
    rw [e]
    exact sread_len s w h hl
end Go.Proofs.YtbdhicjebeoakaaDoor
