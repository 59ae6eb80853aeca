/- Arguments that are rows of lockagelaw05.Op, opened; loads of whole structs out of old rows; lockagelaw05.few. -/
import Derived.Test.YtbdhicjebeoakaaDoorMem
import Derived.Test.YtbdhicjebeoakaaDoorRows
import Derived.Test.YtbdhicjebeoakaaDoorBounds
import Derived.WalkKit
import Derived.ProofKit
import Derived.OpenShut
import Derived.ShutString
import Derived.ChangeOld
import Derived.Deep.Slices
set_option linter.unusedVariables false
set_option linter.unusedSimpArgs false
namespace Go.Proofs.YtbdhicjebeoakaaDoor
open Go.RowKit Go.ChangeShapes Go.WideShapes Go.Deep

theorem cell_lt {w : World} {a : Addr} {v : Value} (h : w.cell? a = some v) : a.block < w.heap.size := by
  rcases Nat.lt_or_ge a.block w.heap.size with hlt | hge
  · exact hlt
  · unfold World.cell? at h
    rw [Array.getElem?_eq_none hge] at h
    simp at h
/-- One call of a script. -/
structure OpV where
  r : ByteArray
  a : ByteArray
  cat : Int
  cbits : Int
structure OpV.Ok (o : OpV) : Prop where
  cat : -9223372036854775808 ≤ o.cat ∧ o.cat ≤ 9223372036854775807
  cbits : 0 ≤ o.cbits ∧ o.cbits ≤ 18446744073709551615
  r : o.r.size ≤ maxLen
  a : o.a.size ≤ maxLen
def OpV.cells (o : OpV) : List Value := [.string o.r, .string o.a, .int .i64 o.cat, .int .u64 o.cbits]
/-- A row of n calls, in memory that is older than the call. -/
structure OpArg (w : World) (ad : Option Addr) (n : Nat) (x : Nat → OpV) : Prop where
  at_ : ∀ i, i < n → ∃ g off, ad = some ⟨g, off, none⟩ ∧ g < w.heap.size ∧ (x i).Ok ∧ ∀ j v, (x i).cells[j]? = some v → w.cell? ⟨g, off + i * 4 + j, none⟩ = some v
theorem OpArg.form {W : World} {ad : Option Addr} {n i : Nat} {x : Nat → OpV} (h : OpArg W ad n x) (hi : i < n) : ∃ g off, ad = some ⟨g, off, none⟩ := by
  obtain ⟨g, off, e, _⟩ := h.at_ i hi
  exact ⟨g, off, e⟩
theorem OpArg.ok {W : World} {ad : Option Addr} {n i : Nat} {x : Nat → OpV} (h : OpArg W ad n x) (hi : i < n) : (x i).Ok := by
  obtain ⟨g, off, e, _, ho, _⟩ := h.at_ i hi
  exact ho
theorem OpArg.later {W w : World} {g off i n : Nat} {x : Nat → OpV} (h : OpArg W (some ⟨g, off, none⟩) n x) (hb : Below W.heap.size W w) (hi : i < n) :
    ∀ j v, (x i).cells[j]? = some v → w.cell? ⟨g, off + i * 4 + j, none⟩ = some v := by
  obtain ⟨g', off', e, hg, _, hc⟩ := h.at_ i hi
  simp only [Option.some.injEq, Addr.mk.injEq] at e
  obtain ⟨rfl, rfl, _⟩ := e
  intro j v hv
  rw [hb.cell (p := ⟨g, off + i * 4 + j, none⟩) hg]; exact hc j v hv
theorem OpArg.on {W w : World} {ad : Option Addr} {n : Nat} {x : Nat → OpV} (h : OpArg W ad n x) (hb : Below W.heap.size W w) : OpArg w ad n x := ⟨fun i hi => by
  obtain ⟨g, off, rfl, hg, ho, hc⟩ := h.at_ i hi
  exact ⟨g, off, rfl, Nat.lt_of_lt_of_le hg hb.size, ho, fun j v hv => by rw [hb.cell (p := ⟨g, off + i * 4 + j, none⟩) hg]; exact hc j v hv⟩⟩

set_option maxRecDepth 50000 in
theorem open_ops {H : Type} {enc : TypeId × Value → H} {W : World} {base : Nat} {v : Value} {d : DataW H} {p : List MemPlace}
    (hval : Value.okWide Tryd.prog W .any base 68 v) (h : DataW.Trod enc Tryd.prog W 0 (fun _ => true) true 68 v d p) : ∃ ad n c x, v = .slice ad n c ∧ n ≤ maxLen ∧ OpArg W ad n x := by
  obtain ⟨ad, n, c, rfl⟩ := okWide_slice Tryd.underlying68 hval
  obtain ⟨fuel, hf⟩ := h
  rcases open_slice Tryd.underlying68 hf with ⟨hcs, _⟩ | ⟨a, len, cap, m, n', D, Pl, hcs, _, hl, hm, hmm, hx, hall⟩
  · simp [Value.cells] at hcs
    obtain ⟨rfl, rfl, rfl⟩ := hcs
    exact ⟨none, 0, 0, fun _ => ⟨ByteArray.empty, ByteArray.empty, 0, 0⟩, rfl, Nat.zero_le _, ⟨fun i hi => absurd hi (by omega)⟩⟩
  · simp [Value.cells] at hcs
    obtain ⟨rfl, rfl, rfl⟩ := hcs
    simp only [if_true] at hmm
    subst hmm
    have each : ∀ i, i < n → ∃ o : OpV, o.Ok ∧ W.cells? 0 (a.add (i * 4)) 4 = some o.cells := by
      intro i hi
      obtain ⟨cs, h1, h2⟩ := hall i (by omega)
      have hc6 : Tryd.prog.cellsOf 76 = 4 := by kernel_rfl
      rw [hc6] at h1
      obtain ⟨xs, k, _, hxy, hcl, hxl, hF⟩ := DataW.trod_struct Tryd.underlying76 h2
      rw [hc6] at hcl
      match cs, hcl, xs, hxl with
      | [c0, c1, c2, c3], _, [y0, y1, y2], _ =>
        have g0 := hF 0 _ rfl
        have g1 := hF 1 _ rfl
        have g2 := hF 2 _ rfl
        have k0 : Tryd.prog.cellsOf 3 = 1 := by kernel_rfl
        have k1 : Tryd.prog.cellsOf 9 = 1 := by kernel_rfl
        have k3 : Tryd.prog.cellsOf 74 = 2 := by kernel_rfl
        have k4 : Tryd.prog.cellsOf 22 = 1 := by kernel_rfl
        simp [k0, k1, k3] at g0 g1 g2
        obtain ⟨z0, e0, _, b0⟩ := DataW.trod_string Tryd.underlying9 g0
        obtain ⟨z1, e1, _, b1⟩ := DataW.trod_string Tryd.underlying9 g1
        obtain ⟨xs', k', _, hxy', hcl', hxl', hF'⟩ := DataW.trod_struct Tryd.underlying74 g2
        match xs', hxl' with
        | [y5, y6], _ =>
          have g5 := hF' 0 _ rfl
          have g6 := hF' 1 _ rfl
          simp [k0, k4] at g5 g6
          obtain ⟨z5, e5, _, b5⟩ := DataW.trod_int Tryd.underlying3 g5
          obtain ⟨z6, e6, _, b6⟩ := DataW.trod_int Tryd.underlying22 g6
          simp at e0 e1 e5 e6
          subst e0 e1 e5 e6
          exact ⟨⟨z0, z1, z5, z6⟩, ⟨bd_i64 b5, bd_u64 b6, b0, b1⟩, h1⟩
    obtain ⟨x, hx'⟩ := @choose_lt OpV ⟨⟨ByteArray.empty, ByteArray.empty, 0, 0⟩⟩ n _ each
    refine ⟨some a, n, m, x, rfl, Nat.le_trans hl hm, ⟨fun i hi => ?_⟩⟩
    obtain ⟨hok, hcc⟩ := hx' i hi
    obtain ⟨_, _, hcell⟩ := World.cells?_some hcc
    have h0 := hcell 0 (by decide)
    simp only [OpV.cells, List.getElem?_cons_zero] at h0
    have hsp : a.spot = none := by
      obtain ⟨_, hcc0⟩ := hx' 0 (by omega)
      have h00 := (World.cells?_some hcc0).2.2 0 (by decide)
      simp only [OpV.cells, List.getElem?_cons_zero] at h00
      simpa [Addr.add] using World.cell?_spot h00
    obtain ⟨g, off, spot⟩ := a
    simp only at hsp
    subst hsp
    refine ⟨g, off, rfl, ?_, hok, fun j v hv => ?_⟩
    · rw [add_at, add_at] at h0; exact cell_lt h0
    · have hj : j < 4 := by
        have := (List.getElem?_eq_some_iff.1 hv).1
        simpa [OpV.cells] using this
      have := hcell j hj
      rw [add_at, add_at] at this
      rw [this, hv]
section
variable {P : Program}
theorem wpList_load_cells {ops : Array Oper} {rest : List Oper} {o : Oper} {a : Act} {w : World} {Q : Exit → Act → World → Prop} (hgd : o.guard = none) (ty : TypeId) (x : Operand) (ho : o.op = .load ty x)
    (g off : Nat) (hx : a.eval x = .pointer (some ⟨g, off, none⟩)) (d : TypeDesc) (seg : List Value)
    (hu : P.underlying ty = some d) (hd : (match d with | .struct _ | .array _ _ => true | _ => false) = true) (hi : (P.info? ty).map (·.size) = some seg.length)
    (hseg : ∀ j v, seg[j]? = some v → w.cell? ⟨g, off + j, none⟩ = some v)
    (h : wpList P ops Q rest (a.put o.dst (.agg seg.toArray)) w) : wpList P ops Q (o :: rest) a w :=
  wpList_plain hgd fun _ hK => by
    have hl : (loadCells ⟨g, off, none⟩ seg.length).run P w = .ok seg.toArray w :=
      run_loadCells_list (P := P) w ⟨g, off, none⟩ seg (fun j v hv => by rw [add_at]; exact hseg j v hv)
    have hv : (loadVar ty ⟨g, off, none⟩).run P w = .ok (.agg seg.toArray) w := by
      cases hq : P.info? ty with
      | none => simp [hq] at hi
      | some i =>
        have hs : i.size = seg.length := by simpa [hq] using hi
        have hagg : (isAgg ty).run P w = .ok true w := by
          unfold isAgg
          rw [Sem.run_bind, run_underlying hu w]
          cases d <;> simp_all
        simp [loadVar, Sem.run_bind, hagg, sizeOf, typeInfo, hq, hs, hl]
    unfold Oper.wp execOp
    simp only [ho, hx, Instr.loadAt, Instr.sureAddr, Sem.run_bind, Sem.run_pure, Result.andThen_ok, hv]
    exact hK _ _ h
end

/-- May the calls be played? -/
def fewB (n : Nat) (x : Nat → OpV) : Bool := decide (∀ i, i < n → (x i).r.size ≤ 400 ∧ (x i).a.size ≤ 800) && decide (n ≤ 60)
set_option maxHeartbeats 1000000 in
theorem few_any {w : World} {ad : Option Addr} {n c : Nat} {x : Nat → OpV} (hx : OpArg w ad n x) (hn : n ≤ 9223372036854775807) :
    Calls Tryd.prog 38 #[.slice ad n c] w fun e w' => e = .returned (.bool (fewB n x)) ∧ Below w.heap.size w w' := by
  obtain ⟨D, hD⟩ : ∃ D, D = fewB n x := ⟨_, rfl⟩
  rw [← hD]
  have HD := Lib.hid hD
  have HX := Lib.hid hx
  clear hD hx
  go_enter Tryd.func38, Tryd.ntmps38
  go_wp2_with fail
  go_loopw [7] (fun p wr => ∃ i : Nat, p = .int .i64 (i : Int) ∧ i ≤ n ∧ Hid (Below w.heap.size w wr) ∧ Hid (∀ j, j < i → (x j).r.size ≤ 400 ∧ (x j).a.size ≤ 800)) (fun p _ => match p with | .int _ i => n - i.toNat | _ => 0)
  case atStart => exact ⟨0, rfl, Nat.zero_le _, Lib.hid (Below.refl _ _), Lib.hid (fun j hj => absurd hj (Nat.not_lt_zero j))⟩
  case round =>
    obtain ⟨i, rfl, hi, HB, HP⟩ := hrel
    by_cases hlt : i < n
    · obtain ⟨g, off, rfl⟩ := HX.out.form hlt
      have hc := HX.out.later HB.out hlt
      have hdf : ¬ ((x i).r.size ≤ 400 ∧ (x i).a.size ≤ 800) → D = false := fun h => by
        rw [HD.out]
        unfold fewB
        rw [decide_eq_false (fun hh => h (hh i hlt))]
        rfl
      have HDF := Lib.hid hdf
      clear hdf
      generalize hoi : x i = oi at hc HDF
      have HOI := Lib.hid hoi
      clear hoi
      obtain ⟨or_, oa, oc, ob⟩ := oi
      have HC : Hid (∀ j v, [Value.string or_, .string oa, .int .i64 oc, .int .u64 ob][j]? = some v → wr.cell? ⟨g, off + i * 4 + j, none⟩ = some v) := Lib.hid hc
      clear hc
      by_cases h1 : (400 : Int) < (or_.size : Int)
      · obtain rfl : D = false := HDF.out (fun h => by have := h.1; simp only at this; omega)
        go_wp2_with (with_reducible refine wpList_load_cells rfl _ _ rfl g (off + i * 4) (by go_simp) _ [.string or_, .string oa, .int .i64 oc, .int .u64 ob] Tryd.underlying76 rfl (by kernel_rfl) HC.out ?_)
        go_ret
        exact ⟨rfl, HB.out.alloc HB.out.size _⟩
      · by_cases h2 : (800 : Int) < (oa.size : Int)
        · obtain rfl : D = false := HDF.out (fun h => by have := h.2; simp only at this; omega)
          go_wp2_with (with_reducible refine wpList_load_cells rfl _ _ rfl g (off + i * 4) (by go_simp) _ [.string or_, .string oa, .int .i64 oc, .int .u64 ob] Tryd.underlying76 rfl (by kernel_rfl) HC.out ?_)
          go_ret
          exact ⟨rfl, HB.out.alloc HB.out.size _⟩
        · go_wp2_with (with_reducible refine wpList_load_cells rfl _ _ rfl g (off + i * 4) (by go_simp) _ [.string or_, .string oa, .int .i64 oc, .int .u64 ob] Tryd.underlying76 rfl (by kernel_rfl) HC.out ?_)
          refine ⟨⟨i + 1, rfl, by omega, Lib.hid (HB.out.alloc HB.out.size _), Lib.hid (fun j hj => ?_)⟩, ?_⟩
          · by_cases hji : j = i
            · rw [hji, HOI.out]
              exact ⟨by show or_.size ≤ 400; omega, by show oa.size ≤ 800; omega⟩
            · exact HP.out j (by omega)
          · show n - ((i : Int) + 1).toNat < n - (i : Int).toNat
            omega
    · obtain rfl : i = n := by omega
      have hDD : D = decide ((i : Int) ≤ 60) := by
        rw [HD.out]
        unfold fewB
        rw [decide_eq_true HP.out, Bool.true_and]
        exact decide_eq_decide.2 (by omega)
      by_cases h60 : (i : Int) ≤ 60
      · rw [decide_eq_true h60] at hDD
        subst hDD
        go_wp2_with fail
        go_ret
        exact ⟨rfl, HB.out⟩
      · rw [decide_eq_false h60] at hDD
        subst hDD
        have hf : decide ((i : Int) ≤ 60) = false := decide_eq_false h60
        go_wp2_with fail
        go_ret
        exact ⟨rfl, HB.out⟩
theorem fewB_spec {n : Nat} {x : Nat → OpV} (h : fewB n x = true) : n ≤ 60 ∧ ∀ i, i < n → (x i).r.size ≤ 400 ∧ (x i).a.size ≤ 800 := by
  unfold fewB at h
  rw [Bool.and_eq_true, decide_eq_true_eq, decide_eq_true_eq] at h
  exact ⟨h.2, h.1⟩
end Go.Proofs.YtbdhicjebeoakaaDoor
