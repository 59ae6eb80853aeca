/- Arguments that are rows of Op, opened; loads of whole structs out of old rows. -/
import Derived.Test.YtbdhicjebeoakaaArgs
import Derived.Test.YtbdhicjebeoakaaBounds
import Derived.Deep.Slices
set_option linter.unusedVariables false
set_option linter.unusedSimpArgs false
namespace Go.Proofs.Ytbdhicjebeoakaa
open Go.RowKit Go.ChangeShapes Go.WideShapes Go.Deep

/-- One call of a script. -/
structure OpV where
  kind : Int
  at_ : Int
  s : ByteArray
  raw : Bool
  cat : Int
  cbits : Int
structure OpV.Ok (o : OpV) : Prop where
  kind : -9223372036854775808 ≤ o.kind ∧ o.kind ≤ 9223372036854775807
  at_ : -9223372036854775808 ≤ o.at_ ∧ o.at_ ≤ 9223372036854775807
  cat : -9223372036854775808 ≤ o.cat ∧ o.cat ≤ 9223372036854775807
  cbits : 0 ≤ o.cbits ∧ o.cbits ≤ 18446744073709551615
  s : o.s.size ≤ maxLen
def OpV.cells (o : OpV) : List Value := [.int .i64 o.kind, .int .i64 o.at_, .string o.s, .bool o.raw, .int .i64 o.cat, .int .u64 o.cbits]
/-- A row of n calls, in memory that is older than the call. -/
structure OpArg (w : World) (ad : Option Addr) (n : Nat) (x : Nat → OpV) : Prop where
  at_ : ∀ i, i < n → ∃ g off, ad = some ⟨g, off, none⟩ ∧ g < w.heap.size ∧ (x i).Ok ∧ ∀ j v, (x i).cells[j]? = some v → w.cell? ⟨g, off + i * 6 + j, none⟩ = some v
theorem OpArg.form {W : World} {ad : Option Addr} {n i : Nat} {x : Nat → OpV} (h : OpArg W ad n x) (hi : i < n) : ∃ g off, ad = some ⟨g, off, none⟩ := by
  obtain ⟨g, off, e, _⟩ := h.at_ i hi
  exact ⟨g, off, e⟩
theorem OpArg.ok {W : World} {ad : Option Addr} {n i : Nat} {x : Nat → OpV} (h : OpArg W ad n x) (hi : i < n) : (x i).Ok := by
  obtain ⟨g, off, e, _, ho, _⟩ := h.at_ i hi
  exact ho
theorem OpArg.later {W w : World} {g off i n : Nat} {x : Nat → OpV} (h : OpArg W (some ⟨g, off, none⟩) n x) (hb : Below W.heap.size W w) (hi : i < n) :
    ∀ j v, (x i).cells[j]? = some v → w.cell? ⟨g, off + i * 6 + j, none⟩ = some v := by
  obtain ⟨g', off', e, hg, _, hc⟩ := h.at_ i hi
  simp only [Option.some.injEq, Addr.mk.injEq] at e
  obtain ⟨rfl, rfl, _⟩ := e
  intro j v hv
  rw [hb.cell (p := ⟨g, off + i * 6 + j, none⟩) hg]; exact hc j v hv

theorem open_ops {H : Type} {enc : TypeId × Value → H} {W : World} {base : Nat} {v : Value} {d : DataW H} {p : List MemPlace}
    (hval : Value.okWide Try.prog W .any base 26 v) (h : DataW.Trod enc Try.prog W 0 (fun _ => true) true 26 v d p) : ∃ ad n c x, v = .slice ad n c ∧ n ≤ maxLen ∧ OpArg W ad n x := by
  obtain ⟨ad, n, c, rfl⟩ := okWide_slice Try.underlying26 hval
  obtain ⟨fuel, hf⟩ := h
  rcases open_slice Try.underlying26 hf with ⟨hcs, _⟩ | ⟨a, len, cap, m, n', D, Pl, hcs, _, hl, hm, hmm, hx, hall⟩
  · simp [Value.cells] at hcs
    obtain ⟨rfl, rfl, rfl⟩ := hcs
    exact ⟨none, 0, 0, fun _ => ⟨0, 0, ByteArray.empty, false, 0, 0⟩, rfl, Nat.zero_le _, ⟨fun i hi => absurd hi (by omega)⟩⟩
  · simp [Value.cells] at hcs
    obtain ⟨rfl, rfl, rfl⟩ := hcs
    simp only [if_true] at hmm
    subst hmm
    have each : ∀ i, i < n → ∃ o : OpV, o.Ok ∧ W.cells? 0 (a.add (i * 6)) 6 = some o.cells := by
      intro i hi
      obtain ⟨cs, h1, h2⟩ := hall i (by omega)
      have hc6 : Try.prog.cellsOf 35 = 6 := by kernel_rfl
      rw [hc6] at h1
      obtain ⟨xs, k, _, hxy, hcl, hxl, hF⟩ := DataW.trod_struct Try.underlying35 h2
      rw [hc6] at hcl
      match cs, hcl, xs, hxl with
      | [c0, c1, c2, c3, c4, c5], _, [y0, y1, y2, y3, y4], _ =>
        have g0 := hF 0 _ rfl
        have g1 := hF 1 _ rfl
        have g2 := hF 2 _ rfl
        have g3 := hF 3 _ rfl
        have g4 := hF 4 _ rfl
        have k0 : Try.prog.cellsOf 3 = 1 := by kernel_rfl
        have k1 : Try.prog.cellsOf 9 = 1 := by kernel_rfl
        have k2 : Try.prog.cellsOf 4 = 1 := by kernel_rfl
        have k3 : Try.prog.cellsOf 33 = 2 := by kernel_rfl
        have k4 : Try.prog.cellsOf 22 = 1 := by kernel_rfl
        simp [k0, k1, k2, k3] at g0 g1 g2 g3 g4
        obtain ⟨z0, e0, _, b0⟩ := DataW.trod_int Try.underlying3 g0
        obtain ⟨z1, e1, _, b1⟩ := DataW.trod_int Try.underlying3 g1
        obtain ⟨z2, e2, _, b2⟩ := DataW.trod_string Try.underlying9 g2
        obtain ⟨z3, e3, _⟩ := DataW.trod_bool Try.underlying4 g3
        obtain ⟨xs', k', _, hxy', hcl', hxl', hF'⟩ := DataW.trod_struct Try.underlying33 g4
        match xs', hxl' with
        | [y5, y6], _ =>
          have g5 := hF' 0 _ rfl
          have g6 := hF' 1 _ rfl
          simp [k0, k4] at g5 g6
          obtain ⟨z5, e5, _, b5⟩ := DataW.trod_int Try.underlying3 g5
          obtain ⟨z6, e6, _, b6⟩ := DataW.trod_int Try.underlying22 g6
          simp at e0 e1 e2 e3 e5 e6
          subst e0 e1 e2 e3 e5 e6
          exact ⟨⟨z0, z1, z2, z3, z5, z6⟩, ⟨bd_i64 b0, bd_i64 b1, bd_i64 b5, bd_u64 b6, b2⟩, h1⟩
    obtain ⟨x, hx'⟩ := @choose_lt OpV ⟨⟨0, 0, ByteArray.empty, false, 0, 0⟩⟩ n _ each
    refine ⟨some a, n, m, x, rfl, Nat.le_trans hl hm, ⟨fun i hi => ?_⟩⟩
    obtain ⟨hok, hcc⟩ := hx' i hi
    obtain ⟨_, _, hcell⟩ := World.cells?_some hcc
    have h0 := hcell 0 (by decide)
    simp only [OpV.cells, List.getElem?_cons_zero] at h0
    have hsp : a.spot = none := by
      obtain ⟨_, hcc0⟩ := hx' 0 (by omega)
      have h00 := (World.cells?_some hcc0).2.2 0 (by decide)
      simp only [OpV.cells, List.getElem?_cons_zero] at h00
      simpa [Addr.add] using World.cell?_spot h00
    obtain ⟨g, off, spot⟩ := a
    simp only at hsp
    subst hsp
    refine ⟨g, off, rfl, ?_, hok, fun j v hv => ?_⟩
    · rw [add_at, add_at] at h0; exact cell_lt h0
    · have hj : j < 6 := by
        have := (List.getElem?_eq_some_iff.1 hv).1
        simpa [OpV.cells] using this
      have := hcell j hj
      rw [add_at, add_at] at this
      rw [this, hv]
section
variable {P : Program}
theorem wpList_load_cells {ops : Array Oper} {rest : List Oper} {o : Oper} {a : Act} {w : World} {Q : Exit → Act → World → Prop} (hgd : o.guard = none) (ty : TypeId) (x : Operand) (ho : o.op = .load ty x)
    (g off : Nat) (hx : a.eval x = .pointer (some ⟨g, off, none⟩)) (d : TypeDesc) (seg : List Value)
    (hu : P.underlying ty = some d) (hd : (match d with | .struct _ | .array _ _ => true | _ => false) = true) (hi : (P.info? ty).map (·.size) = some seg.length)
    (hseg : ∀ j v, seg[j]? = some v → w.cell? ⟨g, off + j, none⟩ = some v)
    (h : wpList P ops Q rest (a.put o.dst (.agg seg.toArray)) w) : wpList P ops Q (o :: rest) a w :=
  wpList_plain hgd fun _ hK => by
    have hl : (loadCells ⟨g, off, none⟩ seg.length).run P w = .ok seg.toArray w :=
      run_loadCells_list (P := P) w ⟨g, off, none⟩ seg (fun j v hv => by rw [add_at]; exact hseg j v hv)
    have hv : (loadVar ty ⟨g, off, none⟩).run P w = .ok (.agg seg.toArray) w := by
      cases hq : P.info? ty with
      | none => simp [hq] at hi
      | some i =>
        have hs : i.size = seg.length := by simpa [hq] using hi
        have hagg : (isAgg ty).run P w = .ok true w := by
          unfold isAgg
          rw [Sem.run_bind, run_underlying hu w]
          cases d <;> simp_all
        simp [loadVar, Sem.run_bind, hagg, sizeOf, typeInfo, hq, hs, hl]
    unfold Oper.wp execOp
    simp only [ho, hx, Instr.loadAt, Instr.sureAddr, Sem.run_bind, Sem.run_pure, Result.andThen_ok, hv]
    exact hK _ _ h
end
end Go.Proofs.Ytbdhicjebeoakaa
