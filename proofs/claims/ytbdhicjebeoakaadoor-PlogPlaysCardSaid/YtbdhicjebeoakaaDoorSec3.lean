/- lockageref04: number, Print. -/
import Derived.Test.YtbdhicjebeoakaaDoorSec2
set_option linter.unusedVariables false
set_option linter.unusedSimpArgs false
namespace Go.Proofs.YtbdhicjebeoakaaDoor
open Go.RowKit

section
variable {P : Program}
/-- A slice literal of one element that is one cell. -/
theorem wpList_buildCell {ops : Array Oper} {rest : List Oper} {o : Oper} {a : Act} {w : World} {Q : Exit → Act → World → Prop} (hg : o.guard = none) (t e : TypeId) (x : Operand) (ho : o.op = .buildSlice t 1 #[(0, x)])
    (v : Value) (hx : a.eval x = v) (hv : v.cells = #[v]) (hu : P.underlying t = some (.slice e)) (hi : (P.info? e).map (fun i => (i.zero.map (fun z => z.cells.size), i.size)) = some (some 1, 1))
    (h : wpList P ops Q rest (a.put o.dst (.slice (some ⟨w.heap.size, 0, none⟩) 1 1)) (w.alloc (.cells #[v] e))) : wpList P ops Q (o :: rest) a w :=
  wpList_plain hg fun _ hK => by
    obtain ⟨ie, hie, hz⟩ := Option.map_eq_some_iff.1 hi
    simp only [Prod.mk.injEq] at hz
    obtain ⟨hz0, hz1⟩ := hz
    obtain ⟨z, hz2, hz3⟩ := Option.map_eq_some_iff.1 hz0
    refine wp_buildSlice t e 1 #[(0, x)] ho #[v] ie z hu hie hz2 (by omega) (by omega) ?_ (hK _ _ h)
    have e1 : (#[(0, x)].map fun (i, x) => (i, a.eval x)).toList = (([v]).zipIdx 0).map fun x => (x.2, x.1) := by
      simp [hx]
    rw [e1, hz1]
    have := Great.fill_whole (by decide : 0 < 1) [v] ((Array.range (1 * 1)).map (z.cells[· % z.cells.size]!)) (by simp [hv]) (by simp)
    rw [this]
    simp [hv]
end
/-- What a slice of the call's own is, whatever it is. -/
theorem own_form1 {w : World} {base n size : Nat} {e : TypeId} {v : Value} {xs : List Value} (h : w.ownsRow base e size v n xs) :
    ∃ A cap, v = .slice A n cap ∧ n ≤ 9223372036854775807 ∧ (0 < n → ∃ g cur, A = some ⟨g, 0, none⟩ ∧ v.ownBlock = some g ∧ w.heap[g]? = some (.cells cur e (0, 0)) ∧ ∀ (j : Nat) (u : Value), xs[j]? = some u → cur[j]? = some u) := by
  rcases h.2 with ⟨rfl, rfl⟩ | ⟨g, cap, cur, rfl, _, hg, hnc, hcm, _, htake⟩
  · exact ⟨none, 0, rfl, by omega, fun h => absurd h (by omega)⟩
  · refine ⟨_, cap, rfl, by simp only [maxLen] at hcm; omega, fun _ => ⟨g, cur, rfl, rfl, hg, fun j u hu => ?_⟩⟩
    rw [← htake, List.getElem?_take] at hu
    split at hu
    · simpa using hu
    · cases hu
theorem info_u8 : (Tryd.prog.info? 5).map (fun i => (i.zero, i.size, i.bytes)) = some (some (.int .u8 0), 1, 1) := by kernel_rfl
/-- One byte appended to a row of the call's own. -/
theorem wpList_append_byte {ops : Array Oper} {rest : List Oper} {o : Oper} {a : Act} {w : World} {Q : Exit → Act → World → Prop} (hg : o.guard = none) (s x : Operand)
    (ho : o.op = .call { callee := .builtin .append, args := #[s, x], argTypes := #[52, 52] })
    (base : Nat) (v : Value) (n : Nat) (xs : List Value) (c : Value) (hs : a.eval s = v) (hown : w.ownsRow base 5 1 v n xs) (hx : a.eval x = .slice (some ⟨w.heap.size, 0, none⟩) 1 1) (hc : c.oneCell' = true) (hn : n ≤ 1000000000) (hb : base ≤ w.heap.size)
    (h : ∀ v' w', w'.ownsRow base 5 1 v' (n + 1) (xs ++ [c]) → (w.alloc (.cells #[c] 5)).grownBy w' v.ownBlock → wpList Tryd.prog ops Q rest (a.put o.dst v') w') :
    wpList Tryd.prog ops Q (o :: rest) a (w.alloc (.cells #[c] 5)) :=
  wpList_plain hg fun _ hK => by
    obtain ⟨i0, hi0, hz0, hz1, hz2⟩ := info_parts info_u8
    refine wp_append_at _ _ _ 52 ho base 5 i0 (.int .u8 0) 1 1 (by kernel_rfl) hi0 hz0 hz1 hz2 rfl (by decide) v n xs hs (World.ownsRow.alloc hown _) ⟨w.heap.size, 0, none⟩ 1 1 [c] hx rfl (fun j u hu => ?_) (fun u hu => ?_) (by simp only [maxLen]; omega) (by omega) (by simp; omega) ?_
    · rw [add_at, block_cell (heap_alloc_new _ _), Nat.zero_add, List.getElem?_toArray]; exact hu
    · simp only [List.mem_singleton] at hu; subst hu; exact hc
    · intro cv' w1 hown1 hg1 _ hat
      exact hK _ _ (h cv' w1 hown1 hg1)

set_option maxRecDepth 20000 in
set_option maxHeartbeats 1000000 in
theorem number_any (n k : Nat) (w : World) (hk : k ≤ 8) (hk1 : 1 ≤ k) (hn : n < 18446744073709551616) :
    Calls Tryd.prog 50 #[.int .u64 (n : Int), .int .i64 (k : Int)] w fun e w' => e = .returned (.string ⟨(beL k n).toArray⟩) ∧ Below w.heap.size w w' := by
  go_enter Tryd.func50, Tryd.ntmps50
  go_wp2_with fail
  go_loopw [5, 6] (fun v p wr => ∃ j : Nat, p = .int .i64 ((k : Int) - 1 - j) ∧ j ≤ k ∧ Below w.heap.size w wr ∧ wr.ownsRow w.heap.size 5 1 v j ((bv (beL k n)).take j)) (fun _ p _ => match p with | .int _ i => (i + 1).toNat | _ => 0)
  case atStart => exact ⟨0, by simp, by omega, (Below.refl _ _).alloc (Nat.le_refl _) _, by simpa using World.ownsRow_made w #[] 0 (Nat.le_refl _) (Nat.zero_le _) rfl⟩
  case round =>
    obtain ⟨j, rfl, hj, hB, hown⟩ := hrel
    have HB := Lib.hid hB
    have HOWN := Lib.hid hown
    clear hB hown
    by_cases hlt : j < k
    · obtain ⟨I, hI⟩ : ∃ I : Nat, I + j + 1 = k := ⟨k - 1 - j, by omega⟩
      have hi : ((k : Int) - 1 - j) = (I : Int) := by omega
      rw [hi]
      have hbase := HB.out.size
      have hI7 : I ≤ 7 := by omega
      have HI := Lib.hid hI
      clear hI hi
      go_wp2_with (first | ((with_reducible refine wpList_buildCell rfl 52 5 _ rfl _ ?_ ?_ Tryd.underlying52 (by kernel_rfl) ?_); (· rfl); (· rfl)) | ((with_reducible refine wpList_append_byte rfl _ _ rfl w.heap.size u5 j ((bv (beL k n)).take j) _ ?_ HOWN.out ?_ ?_ ?_ hbase ?_); (· rfl); (· rfl); (· rfl); (· omega); intro v' w1 hown1 hg1; have HOWN1 := Lib.hid hown1; have HG1 := Lib.hid hg1; clear hown1 hg1))
      have hk1 := HI.out
      refine ⟨⟨j + 1, congrArg (Value.int IntKind.i64) (by omega), by omega, ?_, ?_⟩, ?_⟩
      · have hf : Fr (fun _ => False) w w1 := ((Fr.of_below (F := fun _ => False) HB.out).alloc _).grown HG1.out (fun g hg => .inr (HOWN.out.lt _ hg).1)
        exact hf.below (Nat.le_refl _) (fun _ h => h.elim)
      · have hb := beL_getD k n j hlt
        have e : (bv (beL k n)).take (j + 1) = (bv (beL k n)).take j ++ [Value.int IntKind.u8 ((n : Int) / 2 ^ (8 * I) % 256)] := by
          have hjl : j < (bv (beL k n)).length := by rw [bv_length, beL_length]; exact hlt
          rw [List.take_succ_eq_append_getElem hjl]
          congr 2
          have h1 : (bv (beL k n))[j]? = some (.int .u8 (((n / 256 ^ (k - 1 - j) % 256 : Nat)) : Int)) := by
            rw [bv_get, hb]; simp
          rw [List.getElem?_eq_getElem hjl] at h1
          rw [Option.some.inj h1, show k - 1 - j = I by omega, show (256 : Nat) = 2 ^ 8 by rfl, ← Nat.pow_mul]
          simp
        rw [e]
        exact HOWN1.out
      · show ((((I : Int) - 1) + 1)).toNat < (((I : Int)) + 1).toNat
        omega
    · obtain rfl : j = k := by omega
      have hi : ((j : Int) - 1 - j) = -1 := by omega
      rw [hi]
      have hown := HOWN.out
      rw [List.take_of_length_le (by rw [bv_length, beL_length]; exact Nat.le_refl _)] at hown
      have HO := Lib.hid hown
      · obtain ⟨A, cap, rfl, hcl, hrow⟩ := own_form1 hown
        obtain ⟨g, cur, rfl, -, hg, hcur⟩ := hrow (by omega)
        have hcv : (convert 52 9 (.slice (some ⟨g, 0, none⟩) j cap)).run Tryd.prog wr = .ok (.string ⟨(beL j n).toArray⟩) wr := by
          have := run_convert_bytes_back (P := Tryd.prog) wr 52 9 5 ⟨g, 0, none⟩ cap (beL j n) (by kernel_rfl) (by kernel_rfl) (by kernel_rfl) (fun i hi => by
            rw [add_at, block_cell hg, Nat.zero_add]
            exact hcur i _ (by rw [bv_get, List.getElem?_eq_getElem hi]; rfl))
          rwa [beL_length] at this
        clear hg hcur hown hrow
        go_wp2_with fail
        go_ret
        exact ⟨rfl, HB.out⟩
end Go.Proofs.YtbdhicjebeoakaaDoor
