/- The log's scan of one half. -/
import Derived.Test.YtbdhicjebeoakaaDoorLog1
import Derived.Test.YtbdhicjebeoakaaDoorHead
import Derived.Deep.Cut
set_option linter.unusedVariables false
set_option linter.unusedSimpArgs false
namespace Go.Proofs.YtbdhicjebeoakaaDoor
open Go.RowKit

/-- The records that stand from a place on. -/
def LSt.more (L : LSt) (d : DSt) (gen : Int) : Nat → Nat → List (List UInt8) → List (List UInt8) × Nat
  | 0, a, rs => (rs, a)
  | f + 1, a, rs =>
    match L.text d gen a ((rs.length : Int) + 1) with
    | none => (rs, a)
    | some r => LSt.more L d gen f (a + r.2) (rs ++ [r.1])
/-- What stands in the half of a kind of gens. -/
def LSt.scan (L : LSt) (d : DSt) (kind : Int) : LSt :=
  match readR (readF d (L.start kind)) with
  | none => L
  | some p =>
    if p.gen ≤ L.gen ∨ p.gen % 2 ≠ kind then L
    else
      match L.text d p.gen 0 0 with
      | none => L
      | some r => { L with gen := p.gen.toNat, first := r.1, recs := (L.more d p.gen L.half r.2 []).1, at_ := (L.more d p.gen L.half r.2 []).2 }
theorem LSt.more_none {L : LSt} {d : DSt} {gen : Int} {a : Nat} {rs : List (List UInt8)} (h : L.text d gen a ((rs.length : Int) + 1) = none) (f : Nat) : L.more d gen f a rs = (rs, a) := by
  cases f with
  | zero => rfl
  | succ f => rw [LSt.more, h]
theorem LSt.text_le {L : LSt} {d : DSt} {gen no : Int} {a : Nat} {r : List UInt8 × Nat} (h : L.text d gen a no = some r) : 0 < r.2 ∧ a + r.2 ≤ L.half := by
  have := nextAll_le h
  unfold room at this
  rw [if_pos (by omega)] at this
  omega
theorem LSt.more_some {L : LSt} {d : DSt} {gen : Int} {a : Nat} {rs : List (List UInt8)} {r : List UInt8 × Nat} (h : L.text d gen a ((rs.length : Int) + 1) = some r) {f : Nat} (hf : L.half ≤ a + f) :
    ∃ f', L.half ≤ a + r.2 + f' ∧ L.more d gen f a rs = L.more d gen f' (a + r.2) (rs ++ [r.1]) := by
  have := LSt.text_le h
  cases f with
  | zero => omega
  | succ f => exact ⟨f, by omega, by rw [LSt.more, h]⟩
theorem DSt.read_len {d : DSt} (h : d.Wf) (j : Int) : (d.read j).1.length ≤ 64 := by
  unfold DSt.read
  by_cases hc : d.check j = 0
  · obtain ⟨_, h2, h3⟩ := DSt.check_zero hc
    rw [if_neg (by simpa using hc)]
    have := lastOf_len j.toNat _ d.cache (d.kept.getD j.toNat []) h.fits (h.all.getD (by omega))
    rw [this]; decide
  · rw [if_pos hc]; simp
theorem log_kept {w W : World} {F : Nat → Prop} {lb db : Nat} {L : LSt} (h : IsLog w F lb db L) (hb : Below w.heap.size w W) : Fr F w W ∧ IsLog W (Ext F w W) lb db L :=
  ⟨Fr.of_below hb, (h.below hb).grow (fun k hk => .inl hk) (fun k hk => by
    rcases hk with hk | hk
    · exact Nat.lt_of_lt_of_le (h.bd k hk) hb.size
    · exact hk.2)⟩
/-- The log's own block, and its records, have turned. -/
theorem LMem.turned {w w' : World} {F : Nat → Prop} {lb db : Nat} {rv rv' : Value} {L L' : LSt} (h : LMem w F lb db rv L) (hb : w'.heap[lb]? = some (.cells (logCells db rv' L') 103 (0, 0)))
    (hs : w.heap.size ≤ w'.heap.size) (hr : OwnStrs 0 w' rv' L'.recs) (hk : ∀ k, rv'.ownBlock = some k → F k ∨ (w.heap.size ≤ k ∧ k < w'.heap.size)) : LMem w' (Ext F w w') lb db rv' L' where
  blk := hb
  recs := hr
  fb := .inl h.fb
  fr := hk
  bd := fun k hk => by
    rcases hk with hk | hk
    · exact Nat.lt_of_lt_of_le (h.bd k hk) hs
    · exact hk.2
theorem ext_bd {F : Nat → Prop} {w w' : World} (h : ∀ k, F k → k < w.heap.size) (hs : w.heap.size ≤ w'.heap.size) : ∀ k, Ext F w w' k → k < w'.heap.size := by
  intro k hk
  rcases hk with hk | hk
  · exact Nat.lt_of_lt_of_le (h k hk) hs
  · exact hk.2
/-- One string appended to a row of one's own. -/
theorem wpList_append_rec {ops : Array Oper} {rest : List Oper} {o : Oper} {a : Act} {w : World} {Q : Exit → Act → World → Prop} (hg : o.guard = none) (s x : Operand)
    (ho : o.op = .call { callee := .builtin .append, args := #[s, x], argTypes := #[41, 41] })
    (v : Value) (l : List (List UInt8)) (c : List UInt8) (hs : a.eval s = v) (hown : OwnStrs 0 w v l) (hx : a.eval x = .slice (some ⟨w.heap.size, 0, none⟩) 1 1) (hn : l.length ≤ 1000000000)
    (h : ∀ A n c' w', OwnStrs 0 w' (.slice A n c') (l ++ [c]) → Fr (fun k => v.ownBlock = some k) w w' → (∀ k, (Value.slice A n c').ownBlock = some k → v.ownBlock = some k ∨ w.heap.size ≤ k) → wpList Tryd.prog ops Q rest (a.put o.dst (.slice A n c')) w') :
    wpList Tryd.prog ops Q (o :: rest) a (w.alloc (.cells #[.string ⟨c.toArray⟩] 9)) :=
  wpList_plain hg fun _ hK => by
    obtain ⟨i0, hi0, hz0, hz1, hz2⟩ := info_parts info_str
    refine wp_append_at _ _ _ 41 ho 0 9 i0 (.string ⟨#[]⟩) 1 16 (by kernel_rfl) hi0 hz0 hz1 hz2 rfl (by decide) v l.length (strs l) hs (World.ownsRow.alloc hown _) ⟨w.heap.size, 0, none⟩ 1 1 [sv c] hx rfl (fun j u hu => ?_) (fun u hu => ?_) (by simp only [maxLen]; omega) (by omega) (by simp) ?_
    · rw [add_at, block_cell (heap_alloc_new _ _), Nat.zero_add, List.getElem?_toArray]; exact hu
    · simp only [List.mem_singleton] at hu; subst hu; rfl
    · intro cv' w1 hown1 hg1 _ hat
      have ho1 : OwnStrs 0 w1 cv' (l ++ [c]) := by
        unfold OwnStrs
        rw [strs_append, List.length_append]
        exact hown1
      obtain ⟨A, cap, rfl, -, -⟩ := own_form1 ho1
      refine hK _ _ (h A _ cap w1 ho1 ?_ ?_)
      · exact ((Fr.refl _ w).alloc _).grown hg1 (fun k hk => .inl hk)
      · intro k hk
        rcases hat with hat | hat
        · exact .inl (by rw [← hat]; exact hk)
        · rw [hat] at hk
          have := Option.some.inj hk
          simp at this
          exact .inr (by omega)
set_option maxRecDepth 20000 in
set_option maxHeartbeats 1000000 in
theorem scan_any {w : World} {F G : Nat → Prop} {lb db : Nat} {L : LSt} {d : DSt} (h : IsLog w F lb db L) (hd : IsDisk w G db d) (hdis : ∀ k, F k → ¬ G k) (kind : Int) (hl : L.base + 2 * L.half ≤ 1000000) :
    Calls Tryd.prog 59 #[.pointer (some ⟨lb, 0, none⟩), .int .i64 kind] w fun e w' => e = .returned (.tuple #[]) ∧ Fr F w w' ∧ IsLog w' (Ext F w w') lb db (L.scan d kind) := by
  obtain ⟨L', hL'⟩ : ∃ L', L' = L.scan d kind := ⟨_, rfl⟩
  rw [← hL']
  have HLS := Lib.hid hL'
  have HL := Lib.hid h
  have HD := Lib.hid hd
  have HDIS := Lib.hid hdis
  clear h hd hdis hL'
  have HS : ∀ W, Below w.heap.size w W → W.cell? ⟨lb, 0, none⟩ = some (.pointer (some ⟨db, 0, none⟩)) := by
    intro W hW
    obtain ⟨rv, hm⟩ := HL.out.below hW
    exact hm.cells.1
  go_enter Tryd.func59, Tryd.ntmps59
  go_wp2_with fail
  have hS0 : Below w.heap.size w w.drew := (Below.refl _ _).drew
  refine wp_head_tail 12 [true, true, true, true, true, false, false, false, false, true, true, false] (fun W => Below w.heap.size w W) (by kernel_rfl) (by kernel_rfl) (fun _ _ d _ _ h => by cases d <;> exact h) hS0 ?_
  simp only [List.take_succ_cons, List.take_zero, List.drop_succ_cons, List.drop_zero]
  refine wpHead_take (.pointer (some ⟨lb, 0, none⟩)) rfl (fun W hW => by go_simp) ?_
  try simp only [Act.put, List.setIfInBounds_toArray, List.set_cons_succ, List.set_cons_zero]
  refine wpHead_take (.pointer (some ⟨lb, 0, none⟩)) rfl (fun W hW => by go_simp) ?_
  try simp only [Act.put, List.setIfInBounds_toArray, List.set_cons_succ, List.set_cons_zero]
  refine wpHead_take (.pointer (some ⟨lb, 0, none⟩)) rfl (fun W hW => by go_simp) ?_
  try simp only [Act.put, List.setIfInBounds_toArray, List.set_cons_succ, List.set_cons_zero]
  refine wpHead_take (.pointer (some ⟨db, 0, none⟩)) rfl (fun W hW => by have h1 := HS W hW; go_simp) ?_
  try simp only [Act.put, List.setIfInBounds_toArray, List.set_cons_succ, List.set_cons_zero]
  refine wpHead_take (.pointer (some ⟨lb, 0, none⟩)) rfl (fun W hW => by go_simp) ?_
  try simp only [Act.put, List.setIfInBounds_toArray, List.set_cons_succ, List.set_cons_zero]
  refine wpHead_step (fun K hK => ?_) hS0; go_simp; refine hK _ _ hS0 ?_; clear hK K
  refine wpHead_step (fun K hK => ?_) hS0; go_simp
  refine (lstart_any (HL.out.below hS0) kind (by omega)).mono ?_
  rintro e w1 ⟨rfl, hb1⟩
  have hS1 := hS0.trans (hb1.mono hS0.size)
  refine hK _ _ hS1 ?_
  clear hK K hb1 hS0
  refine wpHead_step (fun K hK => ?_) hS1; go_simp
  refine (read_any (HD.out.below hS1) (L.start kind : Int)).mono ?_
  rintro e w2 ⟨rfl, hb2⟩
  have hS2 := hS1.trans (hb2.mono hS1.size)
  refine hK _ _ hS2 ?_
  clear hK K hb2 hS1
  obtain ⟨s, hs⟩ : ∃ s, s = readF d (L.start kind) := ⟨_, rfl⟩
  have hs1 : (d.read (L.start kind)).1 = s := hs.symm
  have hs2 : ∃ q, (d.read (L.start kind)).2 = q := ⟨_, rfl⟩
  obtain ⟨q, hq⟩ := hs2
  simp only [hs1, hq]
  have HSR := Lib.hid hs
  clear hs hs1 hq
  try simp only [Act.put, List.setIfInBounds_toArray, List.set_cons_succ, List.set_cons_zero]
  refine wpHead_step (fun K hK => ?_) hS2; go_simp; refine hK _ _ hS2 ?_; clear hK K
  refine wpHead_take (.string ⟨s.toArray⟩) rfl (fun W hW => by go_simp) ?_
  try simp only [Act.put, List.setIfInBounds_toArray, List.set_cons_succ, List.set_cons_zero]
  refine wpHead_take (.int .i64 q) rfl (fun W hW => by go_simp) ?_
  try simp only [Act.put, List.setIfInBounds_toArray, List.set_cons_succ, List.set_cons_zero]
  refine wpHead_step (fun K hK => ?_) hS2; go_simp; refine hK _ _ hS2 ?_; clear hK K
  refine wpHead_nil ?_
  go_wp2_with fail
  have hsl : s.length ≤ 64 := by
    rw [HSR.out]; unfold readF; exact DSt.read_len HD.out.wf _
  refine (sread_any s _ (by omega)).mono ?_
  rintro e w3 ⟨rfl, hb3⟩
  have hS3 := hS2.trans (hb3.mono hS2.size)
  clear hS2 hb3 HS
  rcases hr : readR s with _ | p
  · have hLL : L' = L := by
      rw [HLS.out]; unfold LSt.scan; rw [← HSR.out, hr]
    subst hLL
    clear hr
    simp only [Option.getD_none, Option.isSome_none, Bool.false_eq_true, if_false, pcV, Pc.zero]
    go_upto_region 2 with (fail)
    go_quiet (fail)
    go_wp2_with fail
    refine bodyPost_ret (results_none rfl _ _ _) rfl ?_
    have hk := log_kept HL.out (below_drewN (hS3.alloc hS3.size (.cells #[.int .u64 ((0 : Nat) : Int), .int .i64 0, .int .i64 0, .int .i64 0, .int .i64 0, .string ⟨([] : List UInt8).toArray⟩] 24)) nq)
    exact ⟨rfl, hk.1, hk.2⟩
  · have hp := readR_some hr
    have hpr := (Pc.right_iff p).1 hp.1
    obtain ⟨st, ge, nn, ix, to, da⟩ := p
    simp only at hpr
    have HP := Lib.hid hpr
    have HR := Lib.hid hr
    clear hp hr hpr
    simp only [Option.getD_some, Option.isSome_some, if_true, pcV]
    go_upto_region 2 with (fail)
    have hpb := heap_alloc_new w3 (.cells #[.int .u64 (st : Int), .int .i64 ge, .int .i64 nn, .int .i64 ix, .int .i64 to, .string ⟨da.toArray⟩] 24)
    have hS4 := hS3.alloc hS3.size (.cells #[.int .u64 (st : Int), .int .i64 ge, .int .i64 nn, .int .i64 ix, .int .i64 to, .string ⟨da.toArray⟩] 24)
    generalize (w3.alloc (.cells #[.int .u64 (st : Int), .int .i64 ge, .int .i64 nn, .int .i64 ix, .int .i64 to, .string ⟨da.toArray⟩] 24)) = W3 at hpb hS4 ⊢
    have hpn : w.heap.size ≤ w3.heap.size := hS3.size
    generalize w3.heap.size = pb at hpb hpn ⊢
    have HPB := Lib.hid hpb
    have hk1 : W3.cell? ⟨pb, 1, none⟩ = some (.int .i64 ge) := block_cell hpb 1
    clear hS3 hpb
    obtain ⟨rv, hm⟩ := HL.out.below hS4
    obtain ⟨-, -, -, -, c4, -⟩ := hm.cells
    have e2 := and1
    have HM := Lib.hid hm
    have HS4 := Lib.hid hS4
    clear hm hS4
    by_cases hg : ge ≤ L.gen
    · have hLL : L' = L := by
        rw [HLS.out]; unfold LSt.scan; rw [← HSR.out, HR.out]; exact if_pos (.inl hg)
      subst hLL
      have hgb : decide (ge ≤ (L'.gen : Int)) = true := decide_eq_true hg
      clear hg
      go_quiet (fail)
      go_wp2_with fail
      refine bodyPost_ret (results_none rfl _ _ _) rfl ?_
      have hk := log_kept HL.out (below_drewN HS4.out nq)
      exact ⟨rfl, hk.1, hk.2⟩
    by_cases hkd : ge % 2 = kind
    case neg =>
      have hLL : L' = L := by
        rw [HLS.out]; unfold LSt.scan; rw [← HSR.out, HR.out]; exact if_pos (.inr hkd)
      subst hLL
      have hgb : decide (ge ≤ (L'.gen : Int)) = false := decide_eq_false hg
      have hkb : (ge % 2 != kind) = true := by rw [bne_iff_ne]; exact hkd
      clear hg hkd
      go_quiet (fail)
      go_wp2_with fail
      refine bodyPost_ret (results_none rfl _ _ _) rfl ?_
      have hk := log_kept HL.out (below_drewN HS4.out nq)
      exact ⟨rfl, hk.1, hk.2⟩
    have hsc : L.scan d kind = match L.text d ge 0 0 with
      | none => L
      | some r => { L with gen := ge.toNat, first := r.1, recs := (L.more d ge L.half r.2 []).1, at_ := (L.more d ge L.half r.2 []).2 } := by
      unfold LSt.scan; rw [← HSR.out, HR.out]
      exact if_neg (fun hh => hh.elim (fun h => hg h) (fun h => h hkd))
    have hgb : decide (ge ≤ (L.gen : Int)) = false := decide_eq_false hg
    have hkb : (ge % 2 != kind) = false := by rw [bne_eq_false_iff_eq]; exact hkd
    have hg2 : (L.gen : Int) < ge := by omega
    rw [hsc] at HLS
    clear hg hkd hsc
    go_quiet (fail)
    have HS5 := Lib.hid (below_drewN HS4.out nq)
    have HPB := Lib.hid (show (W3.drewN nq).heap[pb]? = _ from HPB.out)
    have HM := Lib.hid (show LMem (W3.drewN nq) F lb db rv L from HM.out.below (below_drewN (Below.refl _ _) nq))
    generalize W3.drewN nq = W4 at HS5 HPB HM ⊢
    have hk1 : W4.cell? ⟨pb, 1, none⟩ = some (.int .i64 ge) := block_cell HPB.out 1
    have HLG := Lib.hid (show IsLog W4 F lb db L from ⟨rv, HM.out⟩)
    have HDK := Lib.hid (HD.out.below HS5.out)
    clear HS4 c4
    obtain ⟨R, hR⟩ : ∃ R, R = L.text d ge 0 0 := ⟨_, rfl⟩
    have hn := lnext_any HLG.out HDK.out ge 0 0 hl (by omega)
    rw [show ((0 : Nat) : Int) = 0 from rfl, ← hR] at hn
    have HLS' := HLS.out
    rw [← hR] at HLS'
    have HLS := Lib.hid HLS'
    have HRR := Lib.hid hR
    have HN := Lib.hid hn
    clear HLS' hR hn
    go_wp2_with fail
    refine HN.out.mono ?_
    rintro e w5 ⟨rfl, hb5⟩
    have HS6 := Lib.hid (HS5.out.trans (hb5.mono HS5.out.size))
    have HM := Lib.hid (HM.out.below hb5)
    have HPB := Lib.hid ((hb5.block _ (block_lt HPB.out)).trans HPB.out)
    clear hb5 HN HS5 HLG HDK hk1
    rcases R with _ | r
    · have hLL : L' = L := HLS.out
      subst hLL
      simp only [nextV]
      go_wp2_with fail
      refine bodyPost_ret (results_none rfl _ _ _) rfl ?_
      have hk := log_kept HL.out HS6.out
      exact ⟨rfl, hk.1, hk.2⟩
    have hLL : L' = { L with gen := ge.toNat, first := r.1, recs := (L.more d ge L.half r.2 []).1, at_ := (L.more d ge L.half r.2 []).2 } := HLS.out
    have HLL := Lib.hid hLL
    have hk1 : w5.cell? ⟨pb, 1, none⟩ = some (.int .i64 ge) := block_cell HPB.out 1
    obtain ⟨-, -, -, -, c4, -, c6, c7⟩ := HM.out.cells
    have f4 := block_free HM.out.blk 4
    have f6 := block_free HM.out.blk 6
    have f7 := block_free HM.out.blk 7
    clear HLS hLL
    simp only [nextV]
    go_wp2_with fail
    have hge0 : (ge.toNat : Int) = ge := by have := HP.out; omega
    have hlt : lb < w5.heap.size := block_lt HM.out.blk
    have hrle := LSt.text_le (HRR.out).symm
    obtain ⟨LG, hLG⟩ : ∃ LG : List (List UInt8) → Nat → LSt, LG = fun rs lat => { L with gen := ge.toNat, first := r.1, recs := rs, at_ := lat } := ⟨_, rfl⟩
    have hblk : (((w5.setCell ⟨lb, 4, none⟩ (.int .i64 ge)).setCell ⟨lb, 6, none⟩ (.string ⟨r.1.toArray⟩)).setCell ⟨lb, 7, none⟩ (.slice none 0 0)).heap[lb]? = some (.cells (logCells db (.slice none 0 0) (LG [] L.at_)) 103 (0, 0)) := by
      have := heap_setCell_six (i := 7) (.slice none 0 0) (heap_setCell_six (i := 6) (.string ⟨r.1.toArray⟩) (heap_setCell_six (i := 4) (.int .i64 ge) HM.out.blk))
      rw [this, hLG]
      simp [logCells, hge0]
    have hfr : Fr F w (((w5.setCell ⟨lb, 4, none⟩ (.int .i64 ge)).setCell ⟨lb, 6, none⟩ (.string ⟨r.1.toArray⟩)).setCell ⟨lb, 7, none⟩ (.slice none 0 0)) :=
      (((Fr.of_below HS6.out).setCell (.inl HM.out.fb) _).setCell (.inl HM.out.fb) _).setCell (.inl HM.out.fb) _
    have hlg : IsLog (((w5.setCell ⟨lb, 4, none⟩ (.int .i64 ge)).setCell ⟨lb, 6, none⟩ (.string ⟨r.1.toArray⟩)).setCell ⟨lb, 7, none⟩ (.slice none 0 0)) (Ext F w (((w5.setCell ⟨lb, 4, none⟩ (.int .i64 ge)).setCell ⟨lb, 6, none⟩ (.string ⟨r.1.toArray⟩)).setCell ⟨lb, 7, none⟩ (.slice none 0 0))) lb db (LG [] L.at_) := by
      refine ⟨_, hblk, ?_, .inl HM.out.fb, fun k hk => by simp [Value.ownBlock] at hk, ?_⟩
      · rw [hLG]; exact World.ownsRow_nil _ _ _ _
      · intro k hk
        rcases hk with hk | hk
        · exact Nat.lt_of_lt_of_le (HL.out.bd k hk) hfr.size
        · exact hk.2
    generalize (((w5.setCell ⟨lb, 4, none⟩ (.int .i64 ge)).setCell ⟨lb, 6, none⟩ (.string ⟨r.1.toArray⟩)).setCell ⟨lb, 7, none⟩ (.slice none 0 0)) = w6 at hblk hfr hlg ⊢
    obtain ⟨T, hT⟩ : ∃ T, T = L.more d ge L.half r.2 [] := ⟨_, rfl⟩
    have HT := Lib.hid hT
    have HFR := Lib.hid hfr
    have HLG := Lib.hid hLG
    have HLG0 := Lib.hid hlg
    have HGE := Lib.hid hge0
    have HRLE := Lib.hid hrle
    clear hblk hfr hlg hLG hT hge0 hrle HM HPB HS6 c4 c6 c7 f4 f6 f7 hk1
    go_loopw [9, 10] (fun u9 u10 wr => ∃ a : Nat, u9 = .int .i64 (a : Int) ∧ Fr F w wr ∧ ((u10 = .bool true ∧ ∃ rs f lat, IsLog wr (Ext F w wr) lb db (LG rs lat) ∧ a ≤ L.half ∧ rs.length ≤ a ∧ L.half ≤ a + f ∧ Hid (L.more d ge f a rs = T)) ∨ (u10 = .bool false ∧ IsLog wr (Ext F w wr) lb db (LG T.1 T.2))))
      (fun u9 u10 _ => match u9, u10 with | .int _ a, .bool true => L.half - a.toNat + 1 | _, _ => 0)
    case atStart =>
      refine ⟨r.2, ?_, HFR.out, .inl ⟨rfl, [], L.half, L.at_, HLG0.out, ?_, by simp, by omega, Lib.hid HT.out.symm⟩⟩
      · rfl
      · have := HRLE.out; omega
    case round =>
      obtain ⟨a, rfl, hfr, ⟨rfl, rs, f, lat, hlg, ha, hrs, hf, hmore⟩ | ⟨rfl, hlg⟩⟩ := hrel
      · have HFR := Lib.hid hfr
        have HLGR := Lib.hid hlg
        clear hfr hlg
        obtain ⟨rv, hm⟩ := HLGR.out
        rw [HLG.out] at hm
        obtain ⟨A, cap, rfl, -, -⟩ := own_form1 hm.recs
        obtain ⟨-, -, -, -, -, c5, -⟩ := hm.cells
        have f5 := block_free hm.blk 5
        have hlbw : lb < wr.heap.size := block_lt hm.blk
        have HM := Lib.hid hm
        have HMORE := Lib.hid hmore
        clear hm hmore
        go_upto_region 9 with (fail)
        have hblk := heap_setCell_six (i := 5) (.int .i64 (a : Int)) HM.out.blk
        have hfr2 : Fr F w (wr.setCell ⟨lb, 5, none⟩ (.int .i64 (a : Int))) := HFR.out.setCell (.inl (HL.out.fb)) _
        obtain ⟨M, hM⟩ : ∃ M : LSt, M = { L with gen := ge.toNat, first := r.1, recs := rs, at_ := a } := ⟨_, rfl⟩
        have hblk2 : (wr.setCell ⟨lb, 5, none⟩ (.int .i64 (a : Int))).heap[lb]? = some (.cells (logCells db (.slice A rs.length cap) M) 103 (0, 0)) := by
          rw [hblk, hM]; simp [logCells]
        have hown : OwnStrs 0 (wr.setCell ⟨lb, 5, none⟩ (.int .i64 (a : Int))) (.slice A rs.length cap) rs := by
          have := HM.out.recs
          exact ownsRow_setCell_other this (a := ⟨lb, 5, none⟩) HM.out.rv_ne _
        have hlm : LMem (wr.setCell ⟨lb, 5, none⟩ (.int .i64 (a : Int))) (Ext F w (wr.setCell ⟨lb, 5, none⟩ (.int .i64 (a : Int)))) lb db (.slice A rs.length cap) M := by
          refine ⟨hblk2, by rw [hM]; exact hown, .inl HL.out.fb, fun k hk => ?_, fun k hk => ?_⟩
          · rcases HM.out.fr k hk with h1 | h1
            · exact .inl h1
            · exact .inr ⟨h1.1, by simpa using h1.2⟩
          · rcases hk with hk | hk
            · exact Nat.lt_of_lt_of_le (HL.out.bd k hk) hfr2.size
            · exact hk.2
        clear hblk hblk2 hown c5 f5 HM HFR HLGR
        generalize wr.setCell ⟨lb, 5, none⟩ (.int .i64 (a : Int)) = w6 at hfr2 hlm ⊢
        have hdk : IsDisk w6 G db d := HD.out.frame hfr2 (fun k h1 h2 => HDIS.out k h2 h1)
        obtain ⟨R, hR⟩ : ∃ R, R = L.text d ge a ((rs.length : Int) + 1) := ⟨_, rfl⟩
        have hMt : M.text d ge a ((rs.length : Int) + 1) = L.text d ge a ((rs.length : Int) + 1) := by rw [hM]; rfl
        have hMl : M.base + 2 * M.half ≤ 1000000 := by rw [hM]; exact hl
        have hMh : a ≤ M.half := by rw [hM]; exact ha
        have HNX : ∀ W, Below w6.heap.size w6 W → Hid (Calls Tryd.prog 75 #[.pointer (some ⟨lb, 0, none⟩), .int .i64 ge, .int .i64 (a : Int), .int .i64 ((rs.length : Int) + 1)] W fun e w' => e = .returned (nextV (a : Int) R) ∧ Below W.heap.size W w') := fun W hW => by
          have := lnext_any (IsLog.below ⟨_, hlm⟩ hW) (hdk.below hW) ge ((rs.length : Int) + 1) a hMl hMh
          rw [hMt, ← hR] at this
          exact Lib.hid this
        have hc4 : w6.cell? ⟨lb, 4, none⟩ = some (.int .i64 ge) := by
          have := hlm.cells.2.2.2.2.1
          rw [this, hM]; simp [HGE.out]
        have hc7 : w6.cell? ⟨lb, 7, none⟩ = some (.slice A rs.length cap) := hlm.cells.2.2.2.2.2.2.2
        have hlbs : lb < w6.heap.size := block_lt hlm.blk
        have HC4 : Hid (∀ W, Below w6.heap.size w6 W → W.cell? ⟨lb, 4, none⟩ = some (.int .i64 ge)) := Lib.hid (fun W hW => (hW.cell (p := ⟨lb, 4, none⟩) hlbs).trans hc4)
        have HC7 : Hid (∀ W, Below w6.heap.size w6 W → W.cell? ⟨lb, 7, none⟩ = some (.slice A rs.length cap)) := Lib.hid (fun W hW => (hW.cell (p := ⟨lb, 7, none⟩) hlbs).trans hc7)
        have hadd : IntKind.i64.wrap ((rs.length : Int) + 1) = (rs.length : Int) + 1 := by rw [IntKind.wrap_i64]; omega
        have HM := Lib.hid hM
        have HRT := Lib.hid hR
        have HLM := Lib.hid hlm
        have HFR := Lib.hid hfr2
        have HNX' := Lib.hid HNX
        have hT0 : Below w6.heap.size w6 w6.drew := (Below.refl _ _).drew
        have hc7' := HC7.out _ hT0
        clear hM hR hlm hfr2 hdk hMt hMl hMh HNX hc4 hc7
        refine wp_head_tail 19 [true, true, true, true, true, true, false, false, false, false, false, false, false, false, true, true, true, false, false] (fun W => Below w6.heap.size w6 W) (by kernel_rfl) (by kernel_rfl) (fun _ _ d _ _ h => by cases d <;> exact h) hT0 ?_
        simp only [List.take_succ_cons, List.take_zero, List.drop_succ_cons, List.drop_zero]
        refine wpHead_take (.pointer (some ⟨lb, 0, none⟩)) rfl (fun W hW => by go_simp) ?_
        try simp only [Act.put, List.setIfInBounds_toArray, List.set_cons_succ, List.set_cons_zero]
        refine wpHead_take (.pointer (some ⟨lb, 0, none⟩)) rfl (fun W hW => by go_simp) ?_
        try simp only [Act.put, List.setIfInBounds_toArray, List.set_cons_succ, List.set_cons_zero]
        refine wpHead_take (.pointer (some ⟨lb, 0, none⟩)) rfl (fun W hW => by go_simp) ?_
        try simp only [Act.put, List.setIfInBounds_toArray, List.set_cons_succ, List.set_cons_zero]
        refine wpHead_take (.pointer (some ⟨lb, 4, none⟩)) rfl (fun W hW => by go_simp) ?_
        try simp only [Act.put, List.setIfInBounds_toArray, List.set_cons_succ, List.set_cons_zero]
        refine wpHead_take (.int .i64 ge) rfl (fun W hW => by have h1 := HC4.out W hW; go_simp) ?_
        try simp only [Act.put, List.setIfInBounds_toArray, List.set_cons_succ, List.set_cons_zero]
        refine wpHead_take (.int .i64 (a : Int)) rfl (fun W hW => by go_simp) ?_
        try simp only [Act.put, List.setIfInBounds_toArray, List.set_cons_succ, List.set_cons_zero]
        iterate 6 (refine wpHead_step (fun K hK => ?_) hT0; go_simp; refine hK _ _ hT0 ?_; clear hK K)
        refine wpHead_step (fun K hK => ?_) hT0; go_simp
        refine (HNX'.out _ hT0).out.mono ?_
        rintro e w7 ⟨rfl, hb7⟩
        have hT1 := hT0.trans (hb7.mono hT0.size)
        refine hK _ _ hT1 ?_
        clear hK K hb7 hT0 hc7'
        rcases R with _ | x
        · simp only [nextV]
          iterate 1 (refine wpHead_step (fun K hK => ?_) hT1; go_simp; refine hK _ _ hT1 ?_; clear hK K)
          refine wpHead_take (.string ⟨#[]⟩) rfl (fun W hW => by go_simp) ?_
          try simp only [Act.put, List.setIfInBounds_toArray, List.set_cons_succ, List.set_cons_zero]
          refine wpHead_take (.int .i64 (a : Int)) rfl (fun W hW => by go_simp) ?_
          try simp only [Act.put, List.setIfInBounds_toArray, List.set_cons_succ, List.set_cons_zero]
          refine wpHead_take (.bool false) rfl (fun W hW => by go_simp) ?_
          try simp only [Act.put, List.setIfInBounds_toArray, List.set_cons_succ, List.set_cons_zero]
          iterate 2 (refine wpHead_step (fun K hK => ?_) hT1; go_simp; refine hK _ _ hT1 ?_; clear hK K)
          refine wpHead_nil ?_
          have HT1 := Lib.hid hT1
          clear hT1 HC4 HC7
          go_wp2_with fail
          refine ⟨⟨a, rfl⟩, HFR.out.then_below HT1.out, ?_⟩
          have h1 := LSt.more_none HRT.out.symm f
          rw [HMORE.out.out] at h1
          have h2 : LG T.1 T.2 = M := by rw [h1, HLG.out, HM.out]
          rw [h2]
          exact IsLog.grow ⟨_, HLM.out.below HT1.out⟩ (Ext.mono HT1.out.size) (ext_bd HL.out.bd (HFR.out.then_below HT1.out).size)
        · simp only [nextV]
          iterate 1 (refine wpHead_step (fun K hK => ?_) hT1; go_simp; refine hK _ _ hT1 ?_; clear hK K)
          refine wpHead_take (.string ⟨x.1.toArray⟩) rfl (fun W hW => by go_simp) ?_
          try simp only [Act.put, List.setIfInBounds_toArray, List.set_cons_succ, List.set_cons_zero]
          refine wpHead_take (.int .i64 ((a : Int) + x.2)) rfl (fun W hW => by go_simp) ?_
          try simp only [Act.put, List.setIfInBounds_toArray, List.set_cons_succ, List.set_cons_zero]
          refine wpHead_take (.bool true) rfl (fun W hW => by go_simp) ?_
          try simp only [Act.put, List.setIfInBounds_toArray, List.set_cons_succ, List.set_cons_zero]
          iterate 2 (refine wpHead_step (fun K hK => ?_) hT1; go_simp; refine hK _ _ hT1 ?_; clear hK K)
          refine wpHead_nil ?_
          have hc7 := HC7.out _ hT1
          have HT1 := Lib.hid hT1
          clear hT1 HC4 HC7
          repeat (first | (go_not_at_region 11; first | go_values | go_skip | go_guarded | go_step | go_upon))
          have hlm7 := HLM.out.below HT1.out
          have hrl : rs.length ≤ 1000000000 := by omega
          have hown7 : OwnStrs 0 w7 (.slice A rs.length cap) rs := by have := hlm7.recs; rw [HM.out] at this; exact this
          have HLM7 := Lib.hid hlm7
          have HOWN7 := Lib.hid hown7
          clear hlm7 hown7
          repeat (first | (go_big_may; first | ((with_reducible refine wpList_buildCell rfl 41 9 _ rfl _ ?_ ?_ Tryd.underlying41 (by kernel_rfl) ?_); (· rfl); (· rfl)) | ((with_reducible refine wpList_append_rec rfl _ _ rfl (.slice A rs.length cap) rs x.1 ?_ HOWN7.out ?_ hrl ?_); (· rfl); (· rfl); intro A2 n2 c2 w8 hown1 hfr1 hat1; have hb8 := (hfr1.block lb (block_lt HLM7.out.blk) HLM7.out.rv_ne).trans HLM7.out.blk; have q7 : w8.cell? ⟨lb, 7, none⟩ = some (.slice A rs.length cap) := block_cell hb8 7; have g7 := block_free hb8 7; have HB8 := Lib.hid hb8; have HOWN8 := Lib.hid hown1; have HFR8 := Lib.hid hfr1; have HAT8 := Lib.hid hat1; clear hown1 hfr1 hat1 hb8 hc7)) | go_values | go_skip | go_guarded | go_step | go_upon)
          have hin : ∀ k, (Value.slice A rs.length cap).ownBlock = some k → Ext F w w6 k := fun k hk => HLM.out.fr k hk
          have hfr7 : Fr F w w7 := HFR.out.then_below HT1.out
          have hfr8 : Fr F w w8 := hfr7.trans (HFR8.out.mono (fun k hk => Ext.mono HT1.out.size k (hin k hk)))
          have hfr9 : Fr F w (w8.setCell ⟨lb, 7, none⟩ (.slice A2 n2 c2)) := hfr8.setCell (.inl HL.out.fb) _
          have hne : (Value.slice A2 n2 c2).ownBlock ≠ some lb := by
            intro e
            rcases HAT8.out lb e with h1 | h1
            · exact HLM7.out.rv_ne h1
            · have := block_lt HLM7.out.blk; omega
          have hblk9 := heap_setCell_six (i := 7) (.slice A2 n2 c2) HB8.out
          have hown9 := ownsRow_setCell_other HOWN8.out (a := ⟨lb, 7, none⟩) hne (.slice A2 n2 c2)
          have hlg9 : IsLog (w8.setCell ⟨lb, 7, none⟩ (.slice A2 n2 c2)) (Ext F w (w8.setCell ⟨lb, 7, none⟩ (.slice A2 n2 c2))) lb db (LG (rs ++ [x.1]) a) := by
            refine ⟨.slice A2 n2 c2, ?_, ?_, .inl HL.out.fb, ?_, ext_bd HL.out.bd hfr9.size⟩
            · rw [hblk9, HLG.out, HM.out]; simp [logCells]
            · rw [HLG.out]; exact hown9
            · intro k hk
              rcases HAT8.out k hk with h1 | h1
              · exact Ext.mono (by have := HT1.out.size; have := HFR8.out.size; simp; omega) k (hin k h1)
              · refine .inr ⟨by have := hfr7.size; omega, ?_⟩
                have := (HOWN8.out.lt k hk).2
                simpa using this
          have hx := LSt.text_le HRT.out.symm
          obtain ⟨f', hf', hmo⟩ := LSt.more_some HRT.out.symm (f := f) (by omega)
          go_wp2_with fail
          refine ⟨⟨a + x.2, rfl, rs ++ [x.1], ⟨a, hlg9⟩, hx.2, ?_, f', hf', Lib.hid ?_⟩, ?_⟩
          · simp; omega
          · rw [← hmo]; exact HMORE.out.out
          · have := hx.1; have := hx.2; omega
      · go_wp2_with fail
        go_end0
        refine ⟨rfl, hfr, ?_⟩
        rw [HLL.out, ← HT.out]
        rw [HLG.out] at hlg
        exact hlg
end Go.Proofs.YtbdhicjebeoakaaDoor
