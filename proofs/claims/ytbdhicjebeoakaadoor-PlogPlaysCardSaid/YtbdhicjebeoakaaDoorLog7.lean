/- Append. -/
import Derived.Test.YtbdhicjebeoakaaDoorLog6
set_option linter.unusedVariables false
set_option linter.unusedSimpArgs false
namespace Go.Proofs.YtbdhicjebeoakaaDoor
open Go.RowKit

/-- Append. -/
def LSt.app (L : LSt) (d : DSt) (rec after : List UInt8) : Int × LSt × DSt :=
  if 2147483646 ≤ L.gen then (13, L, d)
  else if 0 < L.gen ∧ L.at_ + countOf rec.length ≤ L.half then
    let x := writesL d (L.start L.gen + L.at_) (layL rec (L.stamp + 1) L.gen (L.recs.length + 1 : Nat))
    (x.1, if x.1 = 0 then { L with stamp := L.stamp + 1, recs := L.recs ++ [rec], at_ := L.at_ + countOf rec.length } else { L with stamp := L.stamp + 1 }, x.2)
  else if L.half < countOf after.length then (4, L, d)
  else
    let x := writesL d (L.start (L.gen + 1 : Nat) + 0) (layL after (L.stamp + 1) (L.gen + 1 : Nat) (0 : Nat))
    (x.1, if x.1 = 0 then { L with stamp := L.stamp + 1, gen := L.gen + 1, first := after, recs := [], at_ := countOf after.length } else { L with stamp := L.stamp + 1 }, x.2)
theorem append_nil (r a : ByteArray) (w : World) :
    Calls Tryd.prog 32 #[.pointer none, .string r, .string a] w fun e w' => e = .returned (.int .i64 8) ∧ w' = w := by
  go_enter Tryd.func32, Tryd.ntmps32
  (try dsimp only); repeat (first | go_values | go_skip | go_guarded | go_step | go_upon)
  go_ret
  exact ⟨rfl, rfl⟩
set_option maxRecDepth 20000 in
theorem append_limit {w : World} {F : Nat → Prop} {lb db : Nat} {L : LSt} (h : IsLog w F lb db L) (hg : 2147483646 ≤ L.gen) (r a : ByteArray) :
    Calls Tryd.prog 32 #[.pointer (some ⟨lb, 0, none⟩), .string r, .string a] w fun e w' => e = .returned (.int .i64 13) ∧ w' = w := by
  obtain ⟨rv, hm⟩ := h
  obtain ⟨-, -, -, -, c4, -⟩ := hm.cells
  have hb0 : decide (2147483646 ≤ (L.gen : Int)) = true := decide_eq_true (by omega)
  clear hm hg
  go_enter Tryd.func32, Tryd.ntmps32
  (try dsimp only); repeat (first | go_values | go_skip | go_guarded | go_step | go_upon)
  go_ret
  exact ⟨rfl, rfl⟩
/-- Is there no room for the record? -/
theorem noroom_cases (L : LSt) (n : Nat) (h : ¬ (0 < L.gen ∧ L.at_ + n ≤ L.half)) : L.gen = 0 ∨ (0 < L.gen ∧ L.half < L.at_ + n) := by omega
set_option maxRecDepth 20000 in
set_option maxHeartbeats 1000000 in
theorem append_full {w : World} {F : Nat → Prop} {lb db : Nat} {L : LSt} (h : IsLog w F lb db L) (hg : L.gen < 2147483646) (r a : List UInt8) (hr : r.length ≤ 1000000) (ha : a.length ≤ 1000000)
    (hl : L.base + 2 * L.half ≤ 1000000) (hat : L.at_ ≤ L.half) (hno : ¬ (0 < L.gen ∧ L.at_ + countOf r.length ≤ L.half)) (hf : L.half < countOf a.length) :
    Calls Tryd.prog 32 #[.pointer (some ⟨lb, 0, none⟩), .string ⟨r.toArray⟩, .string ⟨a.toArray⟩] w fun e w' => e = .returned (.int .i64 4) ∧ Below w.heap.size w w' := by
  obtain ⟨rv, hm⟩ := h
  obtain ⟨-, -, c2, -, c4, c5, -⟩ := hm.cells
  have hn1 : countOf r.length ≤ 1000000 := by unfold countOf; split <;> omega
  have hn2 : countOf a.length ≤ 1000000 := by unfold countOf; split <;> omega
  have hs1 := Lib.hid (sectors_any ⟨r.toArray⟩ w (by simp [ByteArray.size]; omega))
  have hs2 := Lib.hid (sectors_any ⟨a.toArray⟩ w (by simp [ByteArray.size]; omega))
  have hz : ∀ l : List UInt8, (⟨l.toArray⟩ : ByteArray).size = l.length := fun l => by simp [ByteArray.size]
  rw [hz] at hs1 hs2
  have hb0 : decide (2147483646 ≤ (L.gen : Int)) = false := decide_eq_false (by omega)
  clear hm hz hg
  generalize countOf r.length = n1 at *
  generalize countOf a.length = n2 at *
  rcases noroom_cases L n1 hno with h0 | ⟨h0, h1⟩
  · clear hno
    have hb : decide (0 < L.gen) = false := decide_eq_false (by omega)
    have hx : decide (L.half < n2) = true := decide_eq_true hf
    have HF := Lib.hid hf
    clear hf
    clear h0
    go_enter Tryd.func32, Tryd.ntmps32
    (try dsimp only); repeat (first | go_values | go_skip | go_guarded | go_step | go_upon)
    refine hs1.out.mono ?_
    rintro e w' ⟨rfl, rfl⟩
    (try dsimp only); repeat (first | go_values | go_skip | go_guarded | go_step | go_upon)
    refine hs2.out.mono ?_
    rintro e w' ⟨rfl, rfl⟩
    (try dsimp only); repeat (first | go_values | go_skip | go_guarded | go_step | go_upon)
    go_quiet (fail)
    (try dsimp only); repeat (first | go_values | go_skip | go_guarded | go_step | go_upon)
    go_ret
    exact ⟨rfl, below_drewN (Below.refl _ _) _⟩
  · clear hno
    have hb : decide (0 < L.gen) = true := decide_eq_true h0
    have hx : decide (L.half < n2) = true := decide_eq_true hf
    have HF := Lib.hid hf
    have hb3 : decide (L.at_ + n1 ≤ L.half) = false := decide_eq_false (by omega)
    have hadd : IntKind.i64.wrap ((L.at_ : Int) + n1) = (L.at_ : Int) + n1 := by rw [IntKind.wrap_i64]; omega
    clear hf
    have hb2 : decide ((L.at_ : Int) + n1 ≤ L.half) = false := decide_eq_false (by omega)
    clear h0
    go_enter Tryd.func32, Tryd.ntmps32
    (try dsimp only); repeat (first | go_values | go_skip | go_guarded | go_step | go_upon)
    refine hs1.out.mono ?_
    rintro e w' ⟨rfl, rfl⟩
    (try dsimp only); repeat (first | go_values | go_skip | go_guarded | go_step | go_upon)
    refine hs2.out.mono ?_
    rintro e w' ⟨rfl, rfl⟩
    (try dsimp only); repeat (first | go_values | go_skip | go_guarded | go_step | go_upon)
    go_quiet (fail)
    (try dsimp only); repeat (first | go_values | go_skip | go_guarded | go_step | go_upon)
    go_ret
    exact ⟨rfl, below_drewN (Below.refl _ _) _⟩
end Go.Proofs.YtbdhicjebeoakaaDoor
set_option linter.unusedVariables false
set_option linter.unusedSimpArgs false
namespace Go.Proofs.YtbdhicjebeoakaaDoor
open Go.RowKit

/-- What Append leaves. -/
structure AppPost (w : World) (F G : Nat → Prop) (lb db : Nat) (y : Int × LSt × DSt) (e : Ending) (w' : World) : Prop where
  ret : e = .returned (.int .i64 y.1)
  fr : Fr (Two2 F G) w w'
  duo : ∃ F' G' : Nat → Prop, IsLog w' F' lb db y.2.1 ∧ IsDisk w' G' db y.2.2 ∧ (∀ k, F' k → ¬ G' k) ∧ (∀ k, F' k → F k ∨ w.heap.size ≤ k) ∧ (∀ k, G' k → G k ∨ w.heap.size ≤ k)
theorem LSt.app_whole {L : LSt} {d : DSt} {r a : List UInt8} (hg : L.gen < 2147483646) (hno : ¬ (0 < L.gen ∧ L.at_ + countOf r.length ≤ L.half)) (hf : countOf a.length ≤ L.half) :
    L.app d r a = ((writesL d (L.start (L.gen + 1 : Nat) + 0) (layL a (L.stamp + 1) (L.gen + 1 : Nat) (0 : Nat))).1,
      if (writesL d (L.start (L.gen + 1 : Nat) + 0) (layL a (L.stamp + 1) (L.gen + 1 : Nat) (0 : Nat))).1 = 0 then { L with stamp := L.stamp + 1, gen := L.gen + 1, first := a, recs := [], at_ := countOf a.length } else { L with stamp := L.stamp + 1 },
      (writesL d (L.start (L.gen + 1 : Nat) + 0) (layL a (L.stamp + 1) (L.gen + 1 : Nat) (0 : Nat))).2) := by
  unfold LSt.app
  rw [if_neg (by omega), if_neg hno, if_neg (by omega)]
theorem fr_four (w : World) (lb : Nat) (v4 v6 v7 v5 : Value) : Fr (fun k => k = lb) w ((((w.setCell ⟨lb, 4, none⟩ v4).setCell ⟨lb, 6, none⟩ v6).setCell ⟨lb, 7, none⟩ v7).setCell ⟨lb, 5, none⟩ v5) := by
  have h0 := Fr.refl (fun k => k = lb) w
  have h1 := h0.setCell (p := ⟨lb, 4, none⟩) (.inl rfl) v4
  have h2 := h1.setCell (p := ⟨lb, 6, none⟩) (.inl rfl) v6
  have h3 := h2.setCell (p := ⟨lb, 7, none⟩) (.inl rfl) v7
  exact h3.setCell (p := ⟨lb, 5, none⟩) (.inl rfl) v5
set_option maxRecDepth 20000 in
set_option maxHeartbeats 1000000 in
theorem append_whole {w : World} {F G : Nat → Prop} {lb db : Nat} {L : LSt} {d : DSt} (h : IsLog w F lb db L) (hd : IsDisk w G db d) (hdis : ∀ k, F k → ¬ G k) (hg : L.gen < 2147483646) (r a : List UInt8) (hr : r.length ≤ 1000000) (ha : a.length ≤ 1000000)
    (hl : L.base + 2 * L.half ≤ 1000000) (hh : L.half ≤ 2000) (hat : L.at_ ≤ L.half) (hst : L.stamp + 1 < 18446744073709551616) (hwr : d.writes + 2000 < 1000000000) (hno : ¬ (0 < L.gen ∧ L.at_ + countOf r.length ≤ L.half)) (hf : countOf a.length ≤ L.half) :
    Calls Tryd.prog 32 #[.pointer (some ⟨lb, 0, none⟩), .string ⟨r.toArray⟩, .string ⟨a.toArray⟩] w (AppPost w F G lb db (L.app d r a)) := by
  rw [LSt.app_whole hg hno hf]
  have hok : layOk a ((L.gen + 1 : Nat) : Int) ((0 : Nat) : Int) = true := by rw [layOk_iff]; omega
  have hlay := fun q => loglay_ok (h.below (below_drewN (Below.refl _ w) q)) (hd.below (below_drewN (Below.refl _ w) q)) hdis a 0 (L.gen + 1) 0 ha hok hst (by omega) (by omega) hl
  obtain ⟨X, hX⟩ : ∃ X, X = writesL d (L.start (L.gen + 1 : Nat) + 0) (layL a (L.stamp + 1) (L.gen + 1 : Nat) (0 : Nat)) := ⟨_, rfl⟩
  rw [← hX] at hlay ⊢
  rw [show ((0 : Nat) : Int) = 0 from rfl, show ((L.gen + 1 : Nat) : Int) = (L.gen : Int) + 1 from rfl] at hlay
  have HLAY := Lib.hid hlay
  have hh' := h
  obtain ⟨rv, hm⟩ := hh'
  obtain ⟨-, -, c2, -, c4, c5, -⟩ := hm.cells
  have HM := Lib.hid hm
  have HD := Lib.hid hd
  have HDIS := Lib.hid hdis
  have hn1 : countOf r.length ≤ 1000000 := by unfold countOf; split <;> omega
  have hs1 := Lib.hid (sectors_any ⟨r.toArray⟩ w (by simp [ByteArray.size]; omega))
  have hs2 := Lib.hid (sectors_any ⟨a.toArray⟩ w (by simp [ByteArray.size]; omega))
  have hz : ∀ l : List UInt8, (⟨l.toArray⟩ : ByteArray).size = l.length := fun l => by simp [ByteArray.size]
  rw [hz] at hs1 hs2
  have hb0 : decide (2147483646 ≤ (L.gen : Int)) = false := decide_eq_false (by omega)
  have hadd2 : IntKind.i64.wrap ((L.gen : Int) + 1) = (L.gen : Int) + 1 := by rw [IntKind.wrap_i64]; omega
  clear hm hz hg hlay hok h hd hdis hX
  generalize countOf r.length = n1 at *
  generalize countOf a.length = n2 at *
  have hx : decide (L.half < n2) = false := decide_eq_false (by omega)
  have HF := Lib.hid hf
  clear hf
  rcases noroom_cases L n1 hno with h0 | ⟨h0, h1⟩
  case' inl =>
    clear hno
    have hb : decide (0 < L.gen) = false := decide_eq_false (by omega)
    clear h0
  case' inr =>
    clear hno
    have hb : decide (0 < L.gen) = true := decide_eq_true h0
    have hb2 : decide ((L.at_ : Int) + n1 ≤ L.half) = false := decide_eq_false (by omega)
    have hb3 : decide (L.at_ + n1 ≤ L.half) = false := decide_eq_false (by omega)
    have hadd : IntKind.i64.wrap ((L.at_ : Int) + n1) = (L.at_ : Int) + n1 := by rw [IntKind.wrap_i64]; omega
    clear h0 h1
  all_goals
    go_enter Tryd.func32, Tryd.ntmps32
    (try dsimp only); repeat (first | go_values | go_skip | go_guarded | go_step | go_upon)
    refine hs1.out.mono ?_
    rintro e w' ⟨rfl, rfl⟩
    (try dsimp only); repeat (first | go_values | go_skip | go_guarded | go_step | go_upon)
    refine hs2.out.mono ?_
    rintro e w' ⟨rfl, rfl⟩
    (try dsimp only); repeat (first | go_values | go_skip | go_guarded | go_step | go_upon)
    go_quiet (fail)
    (try dsimp only); repeat (first | go_values | go_skip | go_guarded | go_step | go_upon)
    refine (HLAY.out nq).mono ?_
    rintro e w1 ⟨rfl, hf1, hl1, hd1⟩
    have hsz : (w'.drewN nq).heap.size = w'.heap.size := rfl
    have hf1' : Fr (Two2 F G) w' w1 := ⟨hf1.os, hf1.tape, hf1.output, hf1.size, hf1.block⟩
    have hdis1 : ∀ k, F k → ¬ Ext G (w'.drewN nq) w1 k := fun k h1 h2 => by
      rcases h2 with h2 | h2
      · exact HDIS.out k h1 h2
      · have := HM.out.bd k h1
        rw [hsz] at h2
        omega
    have hext : ∀ k, Ext G (w'.drewN nq) w1 k → G k ∨ w'.heap.size ≤ k := fun k h2 => by
      rcases h2 with h2 | h2
      · exact .inl h2
      · exact .inr h2.1
    have HF1 := Lib.hid hf1'
    have HDIS1 := Lib.hid hdis1
    have HEXT := Lib.hid hext
    have HL1 := Lib.hid hl1
    have HD1 := Lib.hid hd1
    clear hf1 hl1 hd1 hf1' hdis1 hext hsz HLAY hs1 hs2 c2 c4 c5
    obtain ⟨xe, dx⟩ := X
    simp only at HD1 ⊢
    obtain ⟨rv1, hm1⟩ := HL1.out
    obtain ⟨-, -, -, -, c4, c5, c6, c7⟩ := hm1.cells
    have f4 := block_free hm1.blk 4
    have f5 := block_free hm1.blk 5
    have f6 := block_free hm1.blk 6
    have f7 := block_free hm1.blk 7
    have HM1 := Lib.hid hm1
    clear hm1
    by_cases hxe : xe = 0
    · have hxb : (xe != 0) = false := by rw [bne_eq_false_iff_eq]; exact hxe
      have HXE := Lib.hid hxe
      clear hxe
      (try dsimp only); repeat (first | go_values | go_skip | go_guarded | go_step | go_upon)
      go_ret
      have hblk := heap_setCell_six (i := 5) (.int .i64 (n2 : Int)) (heap_setCell_six (i := 7) (.slice none 0 0) (heap_setCell_six (i := 6) (.string ⟨a.toArray⟩) (heap_setCell_six (i := 4) (.int .i64 ((L.gen : Int) + 1)) HM1.out.blk)))
      have hfr : Fr (fun k => k = lb) w1 ((((w1.setCell ⟨lb, 4, none⟩ (.int .i64 ((L.gen : Int) + 1))).setCell ⟨lb, 6, none⟩ (.string ⟨a.toArray⟩)).setCell ⟨lb, 7, none⟩ (.slice none 0 0)).setCell ⟨lb, 5, none⟩ (.int .i64 (n2 : Int))) := fr_four w1 lb _ _ _ _
      have hss : ((((w1.setCell ⟨lb, 4, none⟩ (.int .i64 ((L.gen : Int) + 1))).setCell ⟨lb, 6, none⟩ (.string ⟨a.toArray⟩)).setCell ⟨lb, 7, none⟩ (.slice none 0 0)).setCell ⟨lb, 5, none⟩ (.int .i64 (n2 : Int))).heap.size = w1.heap.size := by simp
      generalize ((((w1.setCell ⟨lb, 4, none⟩ (.int .i64 ((L.gen : Int) + 1))).setCell ⟨lb, 6, none⟩ (.string ⟨a.toArray⟩)).setCell ⟨lb, 7, none⟩ (.slice none 0 0)).setCell ⟨lb, 5, none⟩ (.int .i64 (n2 : Int))) = w5 at hblk hfr hss ⊢
      refine ⟨ret_int HXE.out.symm, HF1.out.trans' (hfr.mono (fun k hk => by have hk' : k = lb := hk; rw [hk']; exact .inl HM1.out.fb)), F, _, ?_, HD1.out.frame hfr (fun k h1 h2 => ?_), HDIS1.out, fun k hk => .inl hk, HEXT.out⟩
      · simp only [if_pos HXE.out]
        refine ⟨.slice none 0 0, ?_, World.ownsRow_nil _ _ _ _, HM1.out.fb, fun k hk => by simp [Value.ownBlock] at hk, fun k hk => by rw [hss]; exact HM1.out.bd k hk⟩
        rw [hblk]; simp [logCells]
      · have h2' : k = lb := h2
        rw [h2'] at h1
        exact HDIS1.out lb HM1.out.fb h1
    · have hxb : (xe != 0) = true := by rw [bne_iff_ne]; exact hxe
      have HXE := Lib.hid hxe
      clear hxe
      (try dsimp only); repeat (first | go_values | go_skip | go_guarded | go_step | go_upon)
      go_ret
      refine ⟨rfl, HF1.out, F, _, ?_, HD1.out, HDIS1.out, fun k hk => .inl hk, HEXT.out⟩
      simp only [if_neg HXE.out]
      exact HL1.out
end Go.Proofs.YtbdhicjebeoakaaDoor
set_option linter.unusedVariables false
set_option linter.unusedSimpArgs false
namespace Go.Proofs.YtbdhicjebeoakaaDoor
open Go.RowKit

theorem LSt.app_rec {L : LSt} {d : DSt} {r a : List UInt8} (hg : L.gen < 2147483646) (h0 : 0 < L.gen) (hn : L.at_ + countOf r.length ≤ L.half) :
    L.app d r a = ((writesL d (L.start L.gen + L.at_) (layL r (L.stamp + 1) L.gen (L.recs.length + 1 : Nat))).1,
      if (writesL d (L.start L.gen + L.at_) (layL r (L.stamp + 1) L.gen (L.recs.length + 1 : Nat))).1 = 0 then { L with stamp := L.stamp + 1, recs := L.recs ++ [r], at_ := L.at_ + countOf r.length } else { L with stamp := L.stamp + 1 },
      (writesL d (L.start L.gen + L.at_) (layL r (L.stamp + 1) L.gen (L.recs.length + 1 : Nat))).2) := by
  unfold LSt.app
  rw [if_neg (by omega), if_pos ⟨h0, hn⟩]
set_option maxRecDepth 20000 in
set_option maxHeartbeats 1000000 in
theorem append_rec {w : World} {F G : Nat → Prop} {lb db : Nat} {L : LSt} {d : DSt} (h : IsLog w F lb db L) (hd : IsDisk w G db d) (hdis : ∀ k, F k → ¬ G k) (hg : L.gen < 2147483646) (r a : List UInt8) (hr : r.length ≤ 1000000) (ha : a.length ≤ 1000000)
    (hl : L.base + 2 * L.half ≤ 1000000) (hh : L.half ≤ 2000) (hst : L.stamp + 1 < 18446744073709551616) (hwr : d.writes + 2000 < 1000000000) (hrl : L.recs.length ≤ 60000) (h0 : 0 < L.gen) (hn : L.at_ + countOf r.length ≤ L.half) :
    Calls Tryd.prog 32 #[.pointer (some ⟨lb, 0, none⟩), .string ⟨r.toArray⟩, .string ⟨a.toArray⟩] w (AppPost w F G lb db (L.app d r a)) := by
  rw [LSt.app_rec hg h0 hn]
  have hok : layOk r (L.gen : Int) ((L.recs.length + 1 : Nat) : Int) = true := by rw [layOk_iff]; omega
  have hlay : ∀ W, Below w.heap.size w W → Hid _ := fun W hW => Lib.hid (loglay_ok (h.below hW) (hd.below hW) hdis r L.at_ L.gen (L.recs.length + 1) hr hok hst (by omega) (by omega) hl)
  obtain ⟨X, hX⟩ : ∃ X, X = writesL d (L.start L.gen + L.at_) (layL r (L.stamp + 1) L.gen (L.recs.length + 1 : Nat)) := ⟨_, rfl⟩
  rw [← hX] at hlay ⊢
  have HLAY := Lib.hid hlay
  obtain ⟨rv, hm⟩ := h
  obtain ⟨A, cap, rfl, -, -⟩ := own_form1 hm.recs
  have HM := Lib.hid hm
  have HD := Lib.hid hd
  have HDIS := Lib.hid hdis
  have HC4 : Hid (∀ W, Below w.heap.size w W → W.cell? ⟨lb, 4, none⟩ = some (.int .i64 (L.gen : Int))) := Lib.hid (fun W hW => (HM.out.below hW).cells.2.2.2.2.1)
  have HC5 : Hid (∀ W, Below w.heap.size w W → W.cell? ⟨lb, 5, none⟩ = some (.int .i64 (L.at_ : Int))) := Lib.hid (fun W hW => (HM.out.below hW).cells.2.2.2.2.2.1)
  have HC7 : Hid (∀ W, Below w.heap.size w W → W.cell? ⟨lb, 7, none⟩ = some (.slice A L.recs.length cap)) := Lib.hid (fun W hW => (HM.out.below hW).cells.2.2.2.2.2.2.2)
  obtain ⟨-, -, c2, -, c4, c5, -⟩ := hm.cells
  have hn1 : countOf r.length ≤ 1000000 := by unfold countOf; split <;> omega
  have hs1 := Lib.hid (sectors_any ⟨r.toArray⟩ w (by simp [ByteArray.size]; omega))
  have hs2 := Lib.hid (sectors_any ⟨a.toArray⟩ w (by simp [ByteArray.size]; omega))
  have hz : ∀ l : List UInt8, (⟨l.toArray⟩ : ByteArray).size = l.length := fun l => by simp [ByteArray.size]
  rw [hz] at hs1 hs2
  have hb0 : decide (2147483646 ≤ (L.gen : Int)) = false := decide_eq_false (by omega)
  have hadd2 : IntKind.i64.wrap ((L.recs.length : Int) + 1) = (L.recs.length : Int) + 1 := by rw [IntKind.wrap_i64]; omega
  clear hm hz hg hlay hok hd hdis hX
  generalize countOf r.length = n1 at *
  generalize countOf a.length = n2 at *
  have hb : decide (0 < L.gen) = true := decide_eq_true h0
  have hb2 : decide ((L.at_ : Int) + n1 ≤ L.half) = true := decide_eq_true (by omega)
  have hb3 : decide (L.at_ + n1 ≤ L.half) = true := decide_eq_true (by omega)
  have hadd : IntKind.i64.wrap ((L.at_ : Int) + n1) = (L.at_ : Int) + n1 := by rw [IntKind.wrap_i64]; omega
  clear h0
  go_enter Tryd.func32, Tryd.ntmps32
  (try dsimp only); repeat (first | go_values | go_skip | go_guarded | go_step | go_upon)
  refine hs1.out.mono ?_
  rintro e w' ⟨rfl, rfl⟩
  (try dsimp only); repeat (first | go_values | go_skip | go_guarded | go_step | go_upon)
  refine hs2.out.mono ?_
  rintro e w' ⟨rfl, rfl⟩
  (try dsimp only); repeat (first | go_values | go_skip | go_guarded | go_step | go_upon)
  go_quiet (fail)
  repeat (first | (go_not_at_region 12; first | go_values | go_skip | go_guarded | go_step | go_upon))
  have hT0 : Below w'.heap.size w' (w'.drewN nq).drew := (below_drewN (Below.refl _ _) nq).drew
  have hc7 := HC7.out _ hT0
  have hS0 : (w'.drewN nq).drew.cell? ⟨lb, 4, none⟩ = some (.int .i64 (L.gen : Int)) ∧ (w'.drewN nq).drew.cell? ⟨lb, 5, none⟩ = some (.int .i64 (L.at_ : Int)) := ⟨HC4.out _ hT0, HC5.out _ hT0⟩
  clear c2 c4 c5 hs1 hs2
  refine wp_head_tail 17 [true, true, true, true, true, true, true, true, true, true, false, false, false, false, false, false, false] (fun W => W.cell? ⟨lb, 4, none⟩ = some (.int .i64 (L.gen : Int)) ∧ W.cell? ⟨lb, 5, none⟩ = some (.int .i64 (L.at_ : Int))) (by kernel_rfl) (by kernel_rfl) (fun _ _ d _ _ h => by cases d <;> exact h) hS0 ?_
  generalize (w'.drewN nq).drew = w3 at hT0 hc7 hS0 ⊢
  simp only [List.take_succ_cons, List.take_zero, List.drop_succ_cons, List.drop_zero]
  refine wpHead_take (.pointer (some ⟨lb, 0, none⟩)) rfl (fun W hW => by go_simp) ?_
  try simp only [Act.put, List.setIfInBounds_toArray, List.set_cons_succ, List.set_cons_zero]
  refine wpHead_take (.string ⟨r.toArray⟩) rfl (fun W hW => by go_simp) ?_
  try simp only [Act.put, List.setIfInBounds_toArray, List.set_cons_succ, List.set_cons_zero]
  refine wpHead_take (.pointer (some ⟨lb, 0, none⟩)) rfl (fun W hW => by go_simp) ?_
  try simp only [Act.put, List.setIfInBounds_toArray, List.set_cons_succ, List.set_cons_zero]
  refine wpHead_take (.pointer (some ⟨lb, 0, none⟩)) rfl (fun W hW => by go_simp) ?_
  try simp only [Act.put, List.setIfInBounds_toArray, List.set_cons_succ, List.set_cons_zero]
  refine wpHead_take (.pointer (some ⟨lb, 5, none⟩)) rfl (fun W hW => by go_simp) ?_
  try simp only [Act.put, List.setIfInBounds_toArray, List.set_cons_succ, List.set_cons_zero]
  refine wpHead_take (.int .i64 (L.at_ : Int)) rfl (fun W hW => by have h1 := hW.2; clear hW; go_simp) ?_
  try simp only [Act.put, List.setIfInBounds_toArray, List.set_cons_succ, List.set_cons_zero]
  refine wpHead_take (.pointer (some ⟨lb, 0, none⟩)) rfl (fun W hW => by go_simp) ?_
  try simp only [Act.put, List.setIfInBounds_toArray, List.set_cons_succ, List.set_cons_zero]
  refine wpHead_take (.pointer (some ⟨lb, 0, none⟩)) rfl (fun W hW => by go_simp) ?_
  try simp only [Act.put, List.setIfInBounds_toArray, List.set_cons_succ, List.set_cons_zero]
  refine wpHead_take (.pointer (some ⟨lb, 4, none⟩)) rfl (fun W hW => by go_simp) ?_
  try simp only [Act.put, List.setIfInBounds_toArray, List.set_cons_succ, List.set_cons_zero]
  refine wpHead_take (.int .i64 (L.gen : Int)) rfl (fun W hW => by have h1 := hW.1; clear hW; go_simp) ?_
  try simp only [Act.put, List.setIfInBounds_toArray, List.set_cons_succ, List.set_cons_zero]
  iterate 6 (refine wpHead_step (fun K hK => ?_) hS0; go_simp; refine hK _ _ hS0 ?_; clear hK K)
  refine wpHead_step (fun K hK => ?_) hS0; go_simp
  refine (HLAY.out _ hT0).out.mono ?_
  rintro e w1 ⟨rfl, hf1, hl1, hd1⟩
  have HT0 := Lib.hid hT0
  have hf1' : Fr (Two2 F G) w' w1 := (Fr.of_below hT0).trans (hf1.mono (fun k hk => .inl hk))
  have hdis1 : ∀ k, F k → ¬ Ext G w3 w1 k := fun k h1 h2 => by
    rcases h2 with h2 | h2
    · exact HDIS.out k h1 h2
    · have := HM.out.bd k h1
      have := HT0.out.size
      omega
  have hext : ∀ k, Ext G w3 w1 k → G k ∨ w'.heap.size ≤ k := fun k h2 => by
    rcases h2 with h2 | h2
    · exact .inl h2
    · exact .inr (by have := HT0.out.size; omega)
  obtain ⟨rv1, hm1⟩ := hl1
  obtain ⟨A1, cap1, rfl, -, -⟩ := own_form1 hm1.recs
  obtain ⟨-, -, -, -, c4, c5, -, c7⟩ := hm1.cells
  have f5 := block_free hm1.blk 5
  have f7 := block_free hm1.blk 7
  refine hK _ _ ⟨c4, c5⟩ (wpHead_nil ?_)
  have HF1 := Lib.hid hf1'
  have HDIS1 := Lib.hid hdis1
  have HEXT := Lib.hid hext
  have HM1 := Lib.hid hm1
  have HD1 := Lib.hid hd1
  clear hK K hf1 hm1 hd1 hf1' hdis1 hext HLAY HC4 HC5 HC7 hc7 hS0 hT0
  obtain ⟨xe, dx⟩ := X
  simp only at HD1 ⊢
  by_cases hxe : xe = 0
  · have hxb : (xe != 0) = false := by rw [bne_eq_false_iff_eq]; exact hxe
    have HXE := Lib.hid hxe
    clear hxe
    repeat (first | (go_not_at_region 15; first | go_values | go_skip | go_guarded | go_step | go_upon))
    have HOWN7 : Hid (OwnStrs 0 w1 (.slice A1 L.recs.length cap1) L.recs) := Lib.hid HM1.out.recs
    have hrl2 : L.recs.length ≤ 1000000000 := by omega
    clear c4 c5
    repeat (first | (go_big_may; first | ((with_reducible refine wpList_buildCell rfl 41 9 _ rfl _ ?_ ?_ Tryd.underlying41 (by kernel_rfl) ?_); (· rfl); (· rfl)) | ((with_reducible refine wpList_append_rec rfl _ _ rfl (.slice A1 L.recs.length cap1) L.recs r ?_ HOWN7.out ?_ hrl2 ?_); (· rfl); (· rfl); intro A2 n3 c2 w8 hown1 hfr1 hat1; have hb8 := (hfr1.block lb (block_lt HM1.out.blk) HM1.out.rv_ne).trans HM1.out.blk; have q7 : w8.cell? ⟨lb, 7, none⟩ = some (.slice A1 L.recs.length cap1) := block_cell hb8 7; have q5 : w8.cell? ⟨lb, 5, none⟩ = some (.int .i64 (L.at_ : Int)) := block_cell hb8 5; have g7 := block_free hb8 7; have g5 := block_free hb8 5; have HB8 := Lib.hid hb8; have HOWN8 := Lib.hid hown1; have HFR8 := Lib.hid hfr1; have HAT8 := Lib.hid hat1; clear hown1 hfr1 hat1 hb8 c7 f5 f7)) | go_values | go_skip | go_guarded | go_step | go_upon)
    go_ret
    have hne : (Value.slice A2 n3 c2).ownBlock ≠ some lb := by
      intro e
      rcases HAT8.out lb e with h1 | h1
      · exact HM1.out.rv_ne h1
      · have := block_lt HM1.out.blk; omega
    have hblk := heap_setCell_six (i := 5) (.int .i64 ((L.at_ : Int) + n1)) (heap_setCell_six (i := 7) (.slice A2 n3 c2) HB8.out)
    have hown9 := ownsRow_setCell_other (ownsRow_setCell_other HOWN8.out (a := ⟨lb, 7, none⟩) hne (.slice A2 n3 c2)) (a := ⟨lb, 5, none⟩) hne (.int .i64 ((L.at_ : Int) + n1))
    have hfr8 : Fr F w1 w8 := HFR8.out.mono (fun k hk => HM1.out.fr k hk)
    have hfr : Fr F w1 ((w8.setCell ⟨lb, 7, none⟩ (.slice A2 n3 c2)).setCell ⟨lb, 5, none⟩ (.int .i64 ((L.at_ : Int) + n1))) := by
      have h1 := hfr8.setCell (p := ⟨lb, 7, none⟩) (.inl HM1.out.fb) (.slice A2 n3 c2)
      exact h1.setCell (p := ⟨lb, 5, none⟩) (.inl HM1.out.fb) (.int .i64 ((L.at_ : Int) + n1))
    have hss : ((w8.setCell ⟨lb, 7, none⟩ (.slice A2 n3 c2)).setCell ⟨lb, 5, none⟩ (.int .i64 ((L.at_ : Int) + n1))).heap.size = w8.heap.size := by simp
    generalize ((w8.setCell ⟨lb, 7, none⟩ (.slice A2 n3 c2)).setCell ⟨lb, 5, none⟩ (.int .i64 ((L.at_ : Int) + n1))) = w9 at hblk hown9 hfr hss ⊢
    refine ⟨ret_int HXE.out.symm, HF1.out.trans' (hfr.mono (fun k hk => .inl hk)), Ext F w1 w9, _, ?_, HD1.out.frame hfr (fun k h1 h2 => HDIS1.out k h2 h1), fun k h1 h2 => ?_, fun k hk => ?_, HEXT.out⟩
    · simp only [if_pos HXE.out]
      refine ⟨.slice A2 n3 c2, ?_, hown9, .inl HM1.out.fb, fun k hk => ?_, ext_bd HM1.out.bd hfr.size⟩
      · rw [hblk]; simp [logCells]
      · rcases HAT8.out k hk with h1 | h1
        · exact .inl (HM1.out.fr k h1)
        · refine .inr ⟨h1, ?_⟩
          have := (HOWN8.out.lt k hk).2
          omega
    · rcases h1 with h1 | h1
      · exact HDIS1.out k h1 h2
      · have := HD1.out.bd k h2; omega
    · rcases hk with hk | hk
      · exact .inl hk
      · exact .inr (by have := HF1.out.size; omega)
  · have hxb : (xe != 0) = true := by rw [bne_iff_ne]; exact hxe
    have HXE := Lib.hid hxe
    clear hxe
    (try dsimp only); repeat (first | go_values | go_skip | go_guarded | go_step | go_upon)
    go_ret
    refine ⟨rfl, HF1.out, F, _, ?_, HD1.out, HDIS1.out, fun k hk => .inl hk, HEXT.out⟩
    simp only [if_neg HXE.out]
    exact ⟨_, HM1.out⟩
end Go.Proofs.YtbdhicjebeoakaaDoor
