/- Appending a slice of texts onto one of the call's own, whatever slice the source is; a slice of so many empty texts, made. -/
import Derived.Test.YtbdhicjebeoakaaDoorSame
import Derived.Maps.AppendAt
set_option linter.unusedVariables false
set_option linter.unusedSimpArgs false
namespace Go.Proofs.YtbdhicjebeoakaaDoor
open Go.RowKit

theorem StrsAt.on {w w' : World} {v : Value} {l : List (List UInt8)} (h : StrsAt w v l) (hb : Below w.heap.size w w') : StrsAt w' v l := by
  obtain ⟨A, cap, rfl, hl, hr⟩ := h
  refine ⟨A, cap, rfl, hl, fun i s hs => ?_⟩
  obtain ⟨g, o, hA, hc⟩ := hr i s hs
  exact ⟨g, o, hA, (hb.cell (p := ⟨g, o + i, none⟩) (World.block_lt_of_cell? _ _ hc)).trans hc⟩
theorem StrsAt.nil (w : World) : StrsAt w (.slice none 0 0) [] := ⟨none, 0, rfl, by simp, fun i s h => by simp at h⟩
theorem run_append_texts_none (w : World) (base : Nat) (ty : TypeId) (v : Value) (l : List (List UInt8)) (hown : OwnStrs base w v l) (c : Nat) :
    (Builtin.append_ #[41, 41] ty #[v, .slice none 0 c]).run Tryd.prog w = .ok v w := by
  obtain ⟨i0, hi0, hz0, hz1, hz2⟩ := info_parts info_str
  rcases hown.2 with ⟨rfl, h0⟩ | ⟨g, cap, cur, rfl, _, _, hnc, _⟩
  · simp [Builtin.append_, run_underlying Tryd.underlying41, sizeOf, typeInfo, hi0, Builtin.lenOf, Builtin.firstCells]
  · simp [Builtin.append_, run_underlying Tryd.underlying41, sizeOf, typeInfo, hi0, Builtin.lenOf, Builtin.firstCells, hnc, storeCells]
/-- The texts m appended to the texts l. -/
theorem wpList_append_texts {ops : Array Oper} {rest : List Oper} {o : Oper} {a : Act} {w : World} {Q : Exit → Act → World → Prop} (hg : o.guard = none) (s x : Operand)
    (ho : o.op = .call { callee := .builtin .append, args := #[s, x], argTypes := #[41, 41] })
    (base : Nat) (v u : Value) (l m : List (List UInt8)) (hs : a.eval s = v) (hown : OwnStrs base w v l) (hx : a.eval x = u) (hu : StrsAt w u m) (hn : l.length + m.length ≤ 1000000000) (hb : base ≤ w.heap.size)
    (h : ∀ v' w', OwnStrs base w' v' (l ++ m) → Below base w w' → wpList Tryd.prog ops Q rest (a.put o.dst v') w') :
    wpList Tryd.prog ops Q (o :: rest) a w :=
  wpList_plain hg fun _ hK => by
    obtain ⟨A, cap, rfl, hl, hr⟩ := hu
    rcases A with _ | ad
    · have hm : m = [] := by
        cases m with
        | nil => rfl
        | cons y r => obtain ⟨g, o, e, _⟩ := hr 0 y rfl; cases e
      subst hm
      have hrun := run_append_texts_none w base o.type v l hown cap
      unfold Oper.wp execOp
      simp only [ho, resolve, invoke, builtin, Sem.run_bind, Sem.run_pure, Result.andThen_ok, List.map_toArray, List.map_cons, List.map_nil, hs, hx, List.length_nil, hrun]
      exact hK _ _ (h v w (by rw [List.append_nil]; exact hown) (Below.refl _ _))
    · obtain ⟨i0, hi0, hz0, hz1, hz2⟩ := info_parts info_str
      refine wp_append_at _ _ _ 41 ho base 9 i0 (.string ⟨#[]⟩) 1 16 (by kernel_rfl) hi0 hz0 hz1 hz2 rfl (by decide) v l.length (strs l) hs hown ad m.length cap (strs m) hx (by rw [strs_length]; omega) (fun j y hy => ?_) (fun y hy => ?_) (by simp only [maxLen]; omega) (by omega) hb ?_
      · rw [strs_get] at hy
        have hy2 : ∃ t, m[j]? = some t ∧ sv t = y := by
          cases hq : m[j]? with
          | none => rw [hq] at hy; exact absurd hy (by simp)
          | some t => rw [hq] at hy; exact ⟨t, rfl, Option.some.inj hy⟩
        obtain ⟨t, ht, rfl⟩ := hy2
        obtain ⟨g, off, e, hc⟩ := hr j t ht
        have e2 := Option.some.inj e
        subst e2
        rw [add_at]
        exact hc
      · simp only [strs, List.mem_map] at hy
        obtain ⟨t, _, rfl⟩ := hy
        rfl
      · intro v' w1 hown1 hg1 _ hat
        refine hK _ _ (h v' w1 ?_ ?_)
        · unfold OwnStrs
          rw [strs_append, List.length_append]
          exact hown1
        · exact (Below.refl base w).grown hg1 hb (fun g hg => (hown.lt _ hg).1)
/-- So many empty texts. -/
theorem make_texts (n : Nat) (hn : n ≤ 4096) (W : World) :
    ∃ W', (Instr.makeSlice 41 (.int .i64 (n : Int)) (.int .i64 (n : Int))).run Tryd.prog W = .ok (.slice (some ⟨W.heap.size, 0, none⟩) n n) W' ∧ OwnStrs W.heap.size W' (.slice (some ⟨W.heap.size, 0, none⟩) n n) (List.replicate n []) ∧ Below W.heap.size W W' := by
  have hrun := run_make_same (P := Tryd.prog) 41 9 (.string ⟨#[]⟩) 1 16 (by kernel_rfl) (by kernel_rfl) (by decide) n (by omega) (by omega) W
  rw [Nat.mul_one] at hrun
  refine ⟨_, hrun, ?_, (Below.refl _ _).alloc (Nat.le_refl _) _⟩
  refine ⟨by simp [strs], .inr ⟨W.heap.size, n, Array.replicate n (.string ⟨#[]⟩), by simp, Nat.le_refl _, heap_alloc_new W _, by simp, by simp only [maxLen]; omega, by simp, ?_⟩⟩
  simp [strs, sv]
end Go.Proofs.YtbdhicjebeoakaaDoor
