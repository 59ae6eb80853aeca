/- The reference's log (package lockageref05) in memory; Append, Same, Copy. -/
import Derived.Test.YtbdhicjebeoakaaDoorLogM
set_option linter.unusedVariables false
set_option linter.unusedSimpArgs false
namespace Go.Proofs.YtbdhicjebeoakaaDoor
open Go.RowKit

def rlogCells (rv : Value) (L : LSt) : Array Value :=
  #[.int .i64 (L.gen : Int), .int .i64 (L.half : Int), .string ⟨L.first.toArray⟩, rv, .int .i64 (L.at_ : Int)]
structure RLMem (w : World) (E : Nat → Prop) (rb : Nat) (rv : Value) (L : LSt) : Prop where
  blk : w.heap[rb]? = some (.cells (rlogCells rv L) 72 (0, 0))
  recs : OwnStrs 0 w rv L.recs
  fb : E rb
  fr : ∀ k, rv.ownBlock = some k → E k
  bd : ∀ k, E k → k < w.heap.size
def IsRLog (w : World) (E : Nat → Prop) (rb : Nat) (L : LSt) : Prop := ∃ rv, RLMem w E rb rv L
section
variable {w w' : World} {E G : Nat → Prop} {rb : Nat} {rv : Value} {L L' : LSt}
theorem RLMem.frame (h : RLMem w E rb rv L) (hf : Fr G w w') (hd : ∀ k, E k → ¬ G k) : RLMem w' E rb rv L where
  blk := (hf.block rb (h.bd rb h.fb) (hd rb h.fb)).trans h.blk
  recs := by
    refine ⟨h.recs.1, ?_⟩
    rcases h.recs.2 with hn | ⟨g, cap, cur, he, hb, hg, rest⟩
    · exact .inl hn
    · have hF : E g := h.fr g (by rw [he]; rfl)
      exact .inr ⟨g, cap, cur, he, hb, (hf.block g (h.bd g hF) (hd g hF)).trans hg, rest⟩
  fb := h.fb
  fr := h.fr
  bd := fun k hk => Nat.lt_of_lt_of_le (h.bd k hk) hf.size
theorem RLMem.grow (h : RLMem w E rb rv L) (hg : ∀ k, E k → G k) (hG : ∀ k, G k → k < w.heap.size) : RLMem w G rb rv L :=
  ⟨h.blk, h.recs, hg _ h.fb, fun k hk => hg _ (h.fr k hk), hG⟩
theorem IsRLog.frame (h : IsRLog w E rb L) (hf : Fr G w w') (hd : ∀ k, E k → ¬ G k) : IsRLog w' E rb L := by
  obtain ⟨rv, h⟩ := h
  exact ⟨rv, h.frame hf hd⟩
theorem IsRLog.grow (h : IsRLog w E rb L) (hg : ∀ k, E k → G k) (hG : ∀ k, G k → k < w.heap.size) : IsRLog w G rb L := by
  obtain ⟨rv, h⟩ := h
  exact ⟨rv, h.grow hg hG⟩
theorem IsRLog.bd (h : IsRLog w E rb L) : ∀ k, E k → k < w.heap.size := by obtain ⟨_, h⟩ := h; exact h.bd
theorem IsRLog.below (h : IsRLog w E rb L) (hb : Below w.heap.size w w') : IsRLog w' E rb L :=
  h.frame (G := fun _ => False) (Fr.of_below hb) (fun _ _ h => h)
theorem RLMem.below (h : RLMem w E rb rv L) (hb : Below w.heap.size w w') : RLMem w' E rb rv L :=
  h.frame (G := fun _ => False) (Fr.of_below hb) (fun _ _ h => h)
theorem IsRLog.stamp (h : IsRLog w E rb L) (base x : Nat) : IsRLog w E rb { L with base := base, stamp := x } := by
  obtain ⟨rv, h⟩ := h
  exact ⟨rv, h.blk, h.recs, h.fb, h.fr, h.bd⟩
theorem RLMem.rv_ne (h : RLMem w E rb rv L) : rv.ownBlock ≠ some rb := by
  rcases h.recs.2 with ⟨rfl, _⟩ | ⟨g, cap, cur, rfl, _, hg, _⟩
  · simp [Value.ownBlock]
  · simp [Value.ownBlock, block_ne hg h.blk (by decide)]
theorem RLMem.cells (h : RLMem w E rb rv L) :
    w.cell? ⟨rb, 0, none⟩ = some (.int .i64 (L.gen : Int)) ∧ w.cell? ⟨rb, 1, none⟩ = some (.int .i64 (L.half : Int)) ∧ w.cell? ⟨rb, 2, none⟩ = some (.string ⟨L.first.toArray⟩) ∧
    w.cell? ⟨rb, 3, none⟩ = some rv ∧ w.cell? ⟨rb, 4, none⟩ = some (.int .i64 (L.at_ : Int)) := by
  have := block_cell h.blk
  exact ⟨this 0, this 1, this 2, this 3, this 4⟩
theorem rlog_stay (h : IsRLog w E rb L) (hb : Below w.heap.size w w') : Fr E w w' ∧ IsRLog w' (Ext E w w') rb L :=
  ⟨Fr.of_below hb, (h.below hb).grow (fun k hk => .inl hk) (ext_bd h.bd hb.size)⟩
end
set_option maxRecDepth 20000 in
set_option maxHeartbeats 1000000 in
theorem rapp_any {w : World} {E : Nat → Prop} {rb : Nat} {L : LSt} (h : IsRLog w E rb L) (r a : List UInt8) (hr : r.length ≤ 1000000) (ha : a.length ≤ 1000000) (hh : L.half ≤ 2000) (hat : L.at_ ≤ L.half) (hrl : L.recs.length ≤ 60000) :
    Calls Tryd.prog 39 #[.pointer (some ⟨rb, 0, none⟩), .string ⟨r.toArray⟩, .string ⟨a.toArray⟩] w fun e w' => e = .returned (.int .i64 (L.spec r a).1) ∧ Fr E w w' ∧ IsRLog w' (Ext E w w') rb (L.spec r a).2 := by
  have hn1 : countOf r.length ≤ 1000000 := by unfold countOf; split <;> omega
  have hn2 : countOf a.length ≤ 1000000 := by unfold countOf; split <;> omega
  have hz : ∀ l : List UInt8, (⟨l.toArray⟩ : ByteArray).size = l.length := fun l => by simp [ByteArray.size]
  have hs1 := fun W => Lib.hid (rcount_any (r.length : Int) W (by omega) (by omega))
  have hs2 := fun W => Lib.hid (rcount_any (a.length : Int) W (by omega) (by omega))
  rw [Int.toNat_natCast] at hs1 hs2
  have hz1 := hz r
  have hz2 := hz a
  clear hz
  have HH := Lib.hid h
  obtain ⟨rv, hm⟩ := h
  obtain ⟨A, cap, rfl, -, -⟩ := own_form1 hm.recs
  obtain ⟨c0, c1, c2, c3, c4⟩ := hm.cells
  have f0 := block_free hm.blk 0
  have f2 := block_free hm.blk 2
  have f3 := block_free hm.blk 3
  have f4 := block_free hm.blk 4
  have HM := Lib.hid hm
  clear hm
  by_cases h1 : 2147483646 ≤ L.gen
  · have hs : L.spec r a = (13, L) := by unfold LSt.spec; rw [if_pos h1]
    rw [hs]
    have hb0 : decide (2147483646 ≤ (L.gen : Int)) = true := decide_eq_true (by omega)
    clear h1 hs
    go_enter Tryd.func39, Tryd.ntmps39
    (try dsimp only); repeat (first | go_values | go_skip | go_guarded | go_step | go_upon)
    go_ret
    exact ⟨rfl, rlog_stay HH.out (Below.refl _ _)⟩
  have hb0 : decide (2147483646 ≤ (L.gen : Int)) = false := decide_eq_false (by omega)
  have hg := h1
  by_cases h2 : 0 < L.gen ∧ L.at_ + countOf r.length ≤ L.half
  · have hs : L.spec r a = (0, { L with recs := L.recs ++ [r], at_ := L.at_ + countOf r.length }) := by unfold LSt.spec; rw [if_neg h1, if_pos h2]
    rw [hs]
    have hb : decide (0 < L.gen) = true := decide_eq_true h2.1
    generalize countOf r.length = n1 at *
    have hb2 : decide ((L.at_ : Int) + n1 ≤ L.half) = true := decide_eq_true (by omega)
    have hb3 : decide (L.at_ + n1 ≤ L.half) = true := decide_eq_true (by omega)
    have hadd : IntKind.i64.wrap ((L.at_ : Int) + n1) = (L.at_ : Int) + n1 := by rw [IntKind.wrap_i64]; omega
    have hrl2 : L.recs.length ≤ 1000000000 := by omega
    have H2 := Lib.hid h2
    clear h1 hg h2 hs
    go_enter Tryd.func39, Tryd.ntmps39
    (try dsimp only); repeat (first | go_values | go_skip | go_guarded | go_step | go_upon)
    refine (hs1 _).out.mono ?_
    rintro e w' ⟨rfl, rfl⟩
    (try dsimp only); repeat (first | go_values | go_skip | go_guarded | go_step | go_upon)
    go_quiet (fail)
    have hb1 : Below w.heap.size w (w.drewN nq) := below_drewN (Below.refl _ _) nq
    have HM1 := Lib.hid (HM.out.below hb1)
    have HB1 := Lib.hid hb1
    have hs1' : (w.drewN nq).heap.size = w.heap.size := rfl
    generalize w.drewN nq = w1 at HM1 HB1 hs1' ⊢
    have HS1 := Lib.hid hs1'
    clear hb1 c0 c1 c2 c3 c4 f0 f2 f3 f4 hs1 hs2 hs1'
    obtain ⟨-, -, -, c3, -⟩ := HM1.out.cells
    have HOWN := Lib.hid HM1.out.recs
    (try dsimp only); repeat (first | (go_big_may; first | ((with_reducible refine wpList_buildCell rfl 41 9 _ rfl _ ?_ ?_ Tryd.underlying41 (by kernel_rfl) ?_); (· rfl); (· rfl)) | ((with_reducible refine wpList_append_rec rfl _ _ rfl (.slice A L.recs.length cap) L.recs r ?_ HOWN.out ?_ hrl2 ?_); (· rfl); (· rfl); intro A2 n3 c2 w8 hown1 hfr1 hat1; have hb8 := (hfr1.block rb (block_lt HM1.out.blk) HM1.out.rv_ne).trans HM1.out.blk; have q3 : w8.cell? ⟨rb, 3, none⟩ = some (.slice A L.recs.length cap) := block_cell hb8 3; have q4 : w8.cell? ⟨rb, 4, none⟩ = some (.int .i64 (L.at_ : Int)) := block_cell hb8 4; have g3 := block_free hb8 3; have g4 := block_free hb8 4; have HB8 := Lib.hid hb8; have HOWN8 := Lib.hid hown1; have HFR8 := Lib.hid hfr1; have HAT8 := Lib.hid hat1; clear hown1 hfr1 hat1 hb8 c3)) | go_values | go_skip | go_guarded | go_step | go_upon)
    go_ret
    have hne : (Value.slice A2 n3 c2).ownBlock ≠ some rb := by
      intro e
      rcases HAT8.out rb e with h1 | h1
      · exact HM1.out.rv_ne h1
      · have := block_lt HM1.out.blk; omega
    have hblk := heap_setCell_six (i := 4) (.int .i64 ((L.at_ : Int) + n1)) (heap_setCell_six (i := 3) (.slice A2 n3 c2) HB8.out)
    have hown9 := ownsRow_setCell_other (ownsRow_setCell_other HOWN8.out (a := ⟨rb, 3, none⟩) hne (.slice A2 n3 c2)) (a := ⟨rb, 4, none⟩) hne (.int .i64 ((L.at_ : Int) + n1))
    have hfr8 : Fr E w1 w8 := HFR8.out.mono (fun k hk => HM1.out.fr k hk)
    have hfr : Fr E w1 ((w8.setCell ⟨rb, 3, none⟩ (.slice A2 n3 c2)).setCell ⟨rb, 4, none⟩ (.int .i64 ((L.at_ : Int) + n1))) := by
      have h1 := hfr8.setCell (p := ⟨rb, 3, none⟩) (.inl HM1.out.fb) (.slice A2 n3 c2)
      exact h1.setCell (p := ⟨rb, 4, none⟩) (.inl HM1.out.fb) (.int .i64 ((L.at_ : Int) + n1))
    have hss : ((w8.setCell ⟨rb, 3, none⟩ (.slice A2 n3 c2)).setCell ⟨rb, 4, none⟩ (.int .i64 ((L.at_ : Int) + n1))).heap.size = w8.heap.size := by simp
    generalize ((w8.setCell ⟨rb, 3, none⟩ (.slice A2 n3 c2)).setCell ⟨rb, 4, none⟩ (.int .i64 ((L.at_ : Int) + n1))) = w9 at hblk hown9 hfr hss ⊢
    have hfr0 : Fr E w w9 := (Fr.of_below HB1.out).trans (hfr.mono (fun k hk => .inl hk))
    refine ⟨rfl, hfr0, .slice A2 n3 c2, ?_, hown9, .inl HM.out.fb, fun k hk => ?_, ext_bd HM.out.bd hfr0.size⟩
    · rw [hblk]; simp [rlogCells]
    · rcases HAT8.out k hk with h1 | h1
      · exact .inl (HM1.out.fr k h1)
      · refine .inr ⟨by have := HS1.out; omega, ?_⟩
        have := (HOWN8.out.lt k hk).2
        omega
  generalize hn1' : countOf r.length = n1 at *
  have hcase : (L.gen = 0) ∨ (0 < L.gen ∧ L.half < L.at_ + n1) := by omega
  have HSP : Hid (L.spec r a = if L.half < countOf a.length then (4, L) else (0, { L with gen := L.gen + 1, first := a, recs := [], at_ := countOf a.length })) := Lib.hid (by unfold LSt.spec; rw [if_neg h1, if_neg (by rw [hn1']; exact h2)])
  generalize countOf a.length = n2 at *
  obtain ⟨X, hX⟩ : ∃ X, X = L.spec r a := ⟨_, rfl⟩
  rw [← hX] at HSP ⊢
  have hadd2 : IntKind.i64.wrap ((L.gen : Int) + 1) = (L.gen : Int) + 1 := by rw [IntKind.wrap_i64]; omega
  have HH1 := Lib.hid h1
  clear hX h1 hg h2 hn1'
  rcases hcase with h0 | ⟨h0, h3⟩
  case' inl =>
    have hb : decide (0 < L.gen) = false := decide_eq_false (by omega)
    clear h0
  case' inr =>
    have hb : decide (0 < L.gen) = true := decide_eq_true h0
    have hb2 : decide ((L.at_ : Int) + n1 ≤ L.half) = false := decide_eq_false (by omega)
    have hb3 : decide (L.at_ + n1 ≤ L.half) = false := decide_eq_false (by omega)
    have hadd : IntKind.i64.wrap ((L.at_ : Int) + n1) = (L.at_ : Int) + n1 := by rw [IntKind.wrap_i64]; omega
    clear h0 h3
  all_goals
    go_enter Tryd.func39, Tryd.ntmps39
    (try dsimp only); repeat (first | go_values | go_skip | go_guarded | go_step | go_upon)
    refine (hs1 _).out.mono ?_
    rintro e w' ⟨rfl, rfl⟩
    (try dsimp only); repeat (first | go_values | go_skip | go_guarded | go_step | go_upon)
    go_quiet (fail)
    have hb1 : Below w.heap.size w (w.drewN nq) := below_drewN (Below.refl _ _) nq
    have HM1 := Lib.hid (HM.out.below hb1)
    have HB1 := Lib.hid hb1
    generalize w.drewN nq = w1 at HM1 HB1 ⊢
    clear hb1 c0 c1 c2 c3 c4 f0 f2 f3 f4 hs1
    obtain ⟨c0, c1, c2, c3, c4⟩ := HM1.out.cells
    have f0 := block_free HM1.out.blk 0
    have f2 := block_free HM1.out.blk 2
    have f3 := block_free HM1.out.blk 3
    have f4 := block_free HM1.out.blk 4
    (try dsimp only); repeat (first | go_values | go_skip | go_guarded | go_step | go_upon)
    refine (hs2 _).out.mono ?_
    rintro e w' ⟨rfl, rfl⟩
    by_cases hfull : L.half < n2
    · have hx : decide (L.half < n2) = true := decide_eq_true hfull
      obtain rfl : X = (4, L) := by rw [HSP.out, if_pos hfull]
      clear hfull HSP
      (try dsimp only); repeat (first | go_values | go_skip | go_guarded | go_step | go_upon)
      go_ret
      exact ⟨rfl, rlog_stay HH.out HB1.out⟩
    · have hx : decide (L.half < n2) = false := decide_eq_false hfull
      obtain rfl : X = (0, { L with gen := L.gen + 1, first := a, recs := [], at_ := n2 }) := by rw [HSP.out, if_neg hfull]
      clear hfull HSP
      (try dsimp only); repeat (first | go_values | go_skip | go_guarded | go_step | go_upon)
      go_ret
      have hblk := heap_setCell_six (i := 4) (.int .i64 (n2 : Int)) (heap_setCell_six (i := 3) (.slice none 0 0) (heap_setCell_six (i := 2) (.string ⟨a.toArray⟩) (heap_setCell_six (i := 0) (.int .i64 ((L.gen : Int) + 1)) HM1.out.blk)))
      have hfr : Fr E w ((((w1.setCell ⟨rb, 0, none⟩ (.int .i64 ((L.gen : Int) + 1))).setCell ⟨rb, 2, none⟩ (.string ⟨a.toArray⟩)).setCell ⟨rb, 3, none⟩ (.slice none 0 0)).setCell ⟨rb, 4, none⟩ (.int .i64 (n2 : Int))) :=
        ((((Fr.of_below HB1.out).setCell (p := ⟨rb, 0, none⟩) (.inl HM.out.fb) _).setCell (p := ⟨rb, 2, none⟩) (.inl HM.out.fb) _).setCell (p := ⟨rb, 3, none⟩) (.inl HM.out.fb) _).setCell (p := ⟨rb, 4, none⟩) (.inl HM.out.fb) _
      generalize ((((w1.setCell ⟨rb, 0, none⟩ (.int .i64 ((L.gen : Int) + 1))).setCell ⟨rb, 2, none⟩ (.string ⟨a.toArray⟩)).setCell ⟨rb, 3, none⟩ (.slice none 0 0)).setCell ⟨rb, 4, none⟩ (.int .i64 (n2 : Int))) = w5 at hblk hfr ⊢
      refine ⟨rfl, hfr, .slice none 0 0, ?_, World.ownsRow_nil _ _ _ _, .inl HM.out.fb, fun k hk => by simp [Value.ownBlock] at hk, ext_bd HM.out.bd hfr.size⟩
      rw [hblk]; simp [rlogCells]
set_option maxRecDepth 20000 in
set_option maxHeartbeats 1000000 in
theorem rsame_any {w : World} {E : Nat → Prop} {rb : Nat} {L : LSt} (h : IsRLog w E rb L) (g : Nat) (b : List UInt8) (v : Value) (l : List (List UInt8)) (hv : StrsAt w v l) :
    Calls Tryd.prog 40 #[.pointer (some ⟨rb, 0, none⟩), .int .i64 (g : Int), .string ⟨b.toArray⟩, v] w fun e w' => e = .returned (.bool (decide (L.gen = g ∧ L.first = b ∧ L.recs = l))) ∧ Below w.heap.size w w' := by
  obtain ⟨rv, hm⟩ := h
  have HS := Lib.hid (same_any _ _ _ _ w hm.recs.at hv)
  obtain ⟨c0, -, c2, c3, -⟩ := hm.cells
  obtain ⟨A, cap, rfl, -, -⟩ := own_form1 hm.recs
  obtain ⟨B, c, rfl, -⟩ := hv
  have hxy := sameB L.first b
  clear hm
  obtain ⟨D, hD⟩ : ∃ D, D = decide (L.gen = g ∧ L.first = b ∧ L.recs = l) := ⟨_, rfl⟩
  rw [← hD]
  have HD := Lib.hid hD
  clear hD
  by_cases h1 : L.gen = g
  case neg =>
    have hb1 : (((L.gen : Nat) : Int) == ((g : Nat) : Int)) = false := by rw [beq_eq_false_iff_ne]; omega
    obtain rfl : D = false := by rw [HD.out]; exact decide_eq_false (fun e => h1 e.1)
    have hb2 : decide (L.gen = g) = false := decide_eq_false h1
    have hb3 : (L.gen == g) = false := by rw [beq_eq_false_iff_ne]; exact h1
    clear h1
    go_enter Tryd.func40, Tryd.ntmps40
    (try dsimp only); repeat (first | go_values | go_skip | go_guarded | go_step | go_upon)
    go_ret
    exact ⟨rfl, Below.refl _ _⟩
  have hb1 : (((L.gen : Nat) : Int) == ((g : Nat) : Int)) = true := by rw [beq_iff_eq]; omega
  have hb3 : (L.gen == g) = true := by rw [beq_iff_eq]; exact h1
  have H1 := Lib.hid h1
  clear h1
  by_cases h2 : L.first = b
  case neg =>
    have hb2 : (L.first == b) = false := by rw [beq_eq_false_iff_ne]; exact h2
    rw [decide_eq_false h2] at hxy
    obtain rfl : D = false := by rw [HD.out]; exact decide_eq_false (fun e => h2 e.2.1)
    clear h2
    go_enter Tryd.func40, Tryd.ntmps40
    (try dsimp only); repeat (first | go_values | go_skip | go_guarded | go_step | go_upon)
    go_ret
    exact ⟨rfl, Below.refl _ _⟩
  have hb2 : (L.first == b) = true := by rw [beq_iff_eq]; exact h2
  rw [decide_eq_true h2] at hxy
  have hDD : D = decide (L.recs = l) := by rw [HD.out]; exact decide_eq_decide.2 ⟨fun e => e.2.2, fun e => ⟨H1.out, h2, e⟩⟩
  subst hDD
  clear h2
  generalize decide (L.recs = l) = D at *
  go_enter Tryd.func40, Tryd.ntmps40
  (try dsimp only); repeat (first | go_values | go_skip | go_guarded | go_step | go_upon)
  refine HS.out.mono ?_
  rintro e w' ⟨rfl, hb⟩
  (try dsimp only); repeat (first | go_values | go_skip | go_guarded | go_step | go_upon)
  go_ret
  exact ⟨rfl, hb⟩
theorem OwnStrs.zero {b : Nat} {w : World} {v : Value} {l : List (List UInt8)} (h : OwnStrs b w v l) : OwnStrs 0 w v l :=
  ⟨h.1, h.2.imp id fun ⟨g, cap, cur, he, _, hg, r⟩ => ⟨g, cap, cur, he, Nat.zero_le _, hg, r⟩⟩
/-- The texts m appended to the texts l, as the bare operation. -/
theorem wp_append_texts {o : Oper} {a : Act} {w : World} {K : Act → World → Prop} {Q : Exit → Act → World → Prop} (s x : Operand)
    (ho : o.op = .call { callee := .builtin .append, args := #[s, x], argTypes := #[41, 41] })
    (base : Nat) (v u : Value) (l m : List (List UInt8)) (hs : a.eval s = v) (hown : OwnStrs base w v l) (hx : a.eval x = u) (hu : StrsAt w u m) (hn : l.length + m.length ≤ 1000000000) (hb : base ≤ w.heap.size)
    (h : ∀ v' w', OwnStrs base w' v' (l ++ m) → Below base w w' → K (a.put o.dst v') w') : o.wp Tryd.prog a w K Q := by
  obtain ⟨A, cap, rfl, hl, hr⟩ := hu
  rcases A with _ | ad
  · have hm : m = [] := by
      cases m with
      | nil => rfl
      | cons y r => obtain ⟨g, o, e, _⟩ := hr 0 y rfl; cases e
    subst hm
    have hrun := run_append_texts_none w base o.type v l hown cap
    unfold Oper.wp execOp
    simp only [ho, resolve, invoke, builtin, Sem.run_bind, Sem.run_pure, Result.andThen_ok, List.map_toArray, List.map_cons, List.map_nil, hs, hx, List.length_nil, hrun]
    exact h v w (by rw [List.append_nil]; exact hown) (Below.refl _ _)
  · obtain ⟨i0, hi0, hz0, hz1, hz2⟩ := info_parts info_str
    refine wp_append_at _ _ _ 41 ho base 9 i0 (.string ⟨#[]⟩) 1 16 (by kernel_rfl) hi0 hz0 hz1 hz2 rfl (by decide) v l.length (strs l) hs hown ad m.length cap (strs m) hx (by rw [strs_length]; omega) (fun j y hy => ?_) (fun y hy => ?_) (by simp only [maxLen]; omega) (by omega) hb ?_
    · rw [strs_get] at hy
      have hy2 : ∃ t, m[j]? = some t ∧ sv t = y := by
        cases hq : m[j]? with
        | none => rw [hq] at hy; exact absurd hy (by simp)
        | some t => rw [hq] at hy; exact ⟨t, rfl, Option.some.inj hy⟩
      obtain ⟨t, ht, rfl⟩ := hy2
      obtain ⟨g, off, e, hc⟩ := hr j t ht
      have e2 := Option.some.inj e
      subst e2
      rw [add_at]
      exact hc
    · simp only [strs, List.mem_map] at hy
      obtain ⟨t, _, rfl⟩ := hy
      rfl
    · intro v' w1 hown1 hg1 _ hat
      refine h v' w1 ?_ ?_
      · unfold OwnStrs
        rw [strs_append, List.length_append]
        exact hown1
      · exact (Below.refl base w).grown hg1 hb (fun g hg => (hown.lt _ hg).1)
set_option maxRecDepth 20000 in
set_option maxHeartbeats 2000000 in
theorem rcopy_any {w : World} {E : Nat → Prop} {rb : Nat} {L : LSt} (h : IsRLog w E rb L) (hrl : L.recs.length ≤ 60000) :
    Calls Tryd.prog 44 #[.pointer (some ⟨rb, 0, none⟩)] w fun e w' => ∃ nb, e = .returned (.pointer (some ⟨nb, 0, none⟩)) ∧ Below w.heap.size w w' ∧ IsRLog w' (Ext (fun _ => False) w w') nb L := by
  obtain ⟨rv, hm⟩ := h
  obtain ⟨A, cap, rfl, -, -⟩ := own_form1 hm.recs
  have HM := Lib.hid hm
  have HC : ∀ W, Below w.heap.size w W → W.cell? ⟨rb, 0, none⟩ = some (.int .i64 (L.gen : Int)) ∧ W.cell? ⟨rb, 1, none⟩ = some (.int .i64 (L.half : Int)) ∧ W.cell? ⟨rb, 2, none⟩ = some (.string ⟨L.first.toArray⟩) ∧ W.cell? ⟨rb, 3, none⟩ = some (.slice A L.recs.length cap) ∧ W.cell? ⟨rb, 4, none⟩ = some (.int .i64 (L.at_ : Int)) := fun W hW => (HM.out.below hW).cells
  clear hm
  go_enter Tryd.func44, Tryd.ntmps44
  go_upto_region 1 with (fail)
  have hS0 : Below w.heap.size w w.drew := (Below.refl _ _).drew
  refine wp_head_ord 24 [0, 1, 2, 3, 4, 5, 6, 7, 8, 9, 10, 11, 13, 14, 15, 16, 18, 19, 20, 21, 12, 17, 22, 23] [true, true, true, true, true, true, true, true, true, true, true, true, true, true, true, true, true, true, true, true, false, false, false, false] (fun W => Below w.heap.size w W) (by kernel_rfl) (by kernel_rfl) (fun _ _ d _ _ h => by cases d <;> exact h) hS0 ?_
  simp only [List.map_cons, List.map_nil, List.getD_cons_succ, List.getD_cons_zero, List.drop_succ_cons, List.drop_zero]
  refine wpHead_take (.pointer (some ⟨rb, 0, none⟩)) rfl (fun W hW => by go_simp) ?_
  try simp only [Act.put, List.setIfInBounds_toArray, List.set_cons_succ, List.set_cons_zero]
  refine wpHead_take (.pointer (some ⟨rb, 0, none⟩)) rfl (fun W hW => by go_simp) ?_
  try simp only [Act.put, List.setIfInBounds_toArray, List.set_cons_succ, List.set_cons_zero]
  refine wpHead_take (.pointer (some ⟨rb, 0, none⟩)) rfl (fun W hW => by go_simp) ?_
  try simp only [Act.put, List.setIfInBounds_toArray, List.set_cons_succ, List.set_cons_zero]
  refine wpHead_take (.int .i64 (L.gen : Int)) rfl (fun W hW => by have hC := HC W hW; have h1 := hC.1; clear hW hC HC; go_simp) ?_
  try simp only [Act.put, List.setIfInBounds_toArray, List.set_cons_succ, List.set_cons_zero]
  refine wpHead_take (.pointer (some ⟨rb, 0, none⟩)) rfl (fun W hW => by go_simp) ?_
  try simp only [Act.put, List.setIfInBounds_toArray, List.set_cons_succ, List.set_cons_zero]
  refine wpHead_take (.pointer (some ⟨rb, 0, none⟩)) rfl (fun W hW => by go_simp) ?_
  try simp only [Act.put, List.setIfInBounds_toArray, List.set_cons_succ, List.set_cons_zero]
  refine wpHead_take (.pointer (some ⟨rb, 1, none⟩)) rfl (fun W hW => by go_simp) ?_
  try simp only [Act.put, List.setIfInBounds_toArray, List.set_cons_succ, List.set_cons_zero]
  refine wpHead_take (.int .i64 (L.half : Int)) rfl (fun W hW => by have hC := HC W hW; have h1 := hC.2.1; clear hW hC HC; go_simp) ?_
  try simp only [Act.put, List.setIfInBounds_toArray, List.set_cons_succ, List.set_cons_zero]
  refine wpHead_take (.pointer (some ⟨rb, 0, none⟩)) rfl (fun W hW => by go_simp) ?_
  try simp only [Act.put, List.setIfInBounds_toArray, List.set_cons_succ, List.set_cons_zero]
  refine wpHead_take (.pointer (some ⟨rb, 0, none⟩)) rfl (fun W hW => by go_simp) ?_
  try simp only [Act.put, List.setIfInBounds_toArray, List.set_cons_succ, List.set_cons_zero]
  refine wpHead_take (.pointer (some ⟨rb, 2, none⟩)) rfl (fun W hW => by go_simp) ?_
  try simp only [Act.put, List.setIfInBounds_toArray, List.set_cons_succ, List.set_cons_zero]
  refine wpHead_take (.string ⟨L.first.toArray⟩) rfl (fun W hW => by have hC := HC W hW; have h1 := hC.2.2.1; clear hW hC HC; go_simp) ?_
  try simp only [Act.put, List.setIfInBounds_toArray, List.set_cons_succ, List.set_cons_zero]
  refine wpHead_take (.pointer (some ⟨rb, 0, none⟩)) rfl (fun W hW => by go_simp) ?_
  try simp only [Act.put, List.setIfInBounds_toArray, List.set_cons_succ, List.set_cons_zero]
  refine wpHead_take (.pointer (some ⟨rb, 0, none⟩)) rfl (fun W hW => by go_simp) ?_
  try simp only [Act.put, List.setIfInBounds_toArray, List.set_cons_succ, List.set_cons_zero]
  refine wpHead_take (.pointer (some ⟨rb, 3, none⟩)) rfl (fun W hW => by go_simp) ?_
  try simp only [Act.put, List.setIfInBounds_toArray, List.set_cons_succ, List.set_cons_zero]
  refine wpHead_take (.slice A L.recs.length cap) rfl (fun W hW => by have hC := HC W hW; have h1 := hC.2.2.2.1; clear hW hC HC; go_simp) ?_
  try simp only [Act.put, List.setIfInBounds_toArray, List.set_cons_succ, List.set_cons_zero]
  refine wpHead_take (.pointer (some ⟨rb, 0, none⟩)) rfl (fun W hW => by go_simp) ?_
  try simp only [Act.put, List.setIfInBounds_toArray, List.set_cons_succ, List.set_cons_zero]
  refine wpHead_take (.pointer (some ⟨rb, 0, none⟩)) rfl (fun W hW => by go_simp) ?_
  try simp only [Act.put, List.setIfInBounds_toArray, List.set_cons_succ, List.set_cons_zero]
  refine wpHead_take (.pointer (some ⟨rb, 4, none⟩)) rfl (fun W hW => by go_simp) ?_
  try simp only [Act.put, List.setIfInBounds_toArray, List.set_cons_succ, List.set_cons_zero]
  refine wpHead_take (.int .i64 (L.at_ : Int)) rfl (fun W hW => by have hC := HC W hW; have h1 := hC.2.2.2.2; clear hW hC HC; go_simp) ?_
  try simp only [Act.put, List.setIfInBounds_toArray, List.set_cons_succ, List.set_cons_zero]
  have HS0 := Lib.hid (show w.drew.heap.size = w.heap.size from rfl)
  have hA0 := (HM.out.below hS0).recs.at
  clear HC
  generalize w.drew = w1 at hS0 HS0 hA0 ⊢
  refine wpHead_step (fun K hK => ?_) hS0
  go_simp
  have hmade : OwnStrs w1.heap.size (w1.alloc (.cells #[] 9)) (.slice (some ⟨w1.heap.size, 0, none⟩) 0 0) [] := World.ownsRow_made w1 #[] 0 (Nat.le_refl _) (Nat.zero_le _) rfl
  have hat := hA0.on ((Below.refl w1.heap.size w1).alloc (Nat.le_refl _) (.cells #[] 9))
  have hS1 := hS0.alloc hS0.size (.cells #[] 9)
  have hsz : w1.heap.size ≤ (w1.alloc (.cells #[] 9)).heap.size := by simp
  refine hK _ _ hS1 ?_
  clear hK K
  generalize w1.alloc (.cells #[] 9) = w2 at hmade hat hS1 hsz ⊢
  try simp only [Act.put, List.setIfInBounds_toArray, List.set_cons_succ, List.set_cons_zero]
  refine wpHead_force rfl (fun K hK => ?_)
  refine wp_append_texts _ _ rfl w1.heap.size (.slice (some ⟨w1.heap.size, 0, none⟩) 0 0) (.slice A L.recs.length cap) [] L.recs rfl hmade rfl hat (by simp; omega) hsz ?_
  intro v3 w3 hown3 hb3
  rw [List.nil_append] at hown3
  obtain ⟨A3, c3, rfl, -, -⟩ := own_form1 hown3
  have hS3 : Below w.heap.size w w3 := hS1.trans (hb3.mono (by have := HS0.out; omega))
  refine hK _ _ hS3 ?_
  clear hK K hat hA0 hmade hb3
  have HOWN3 := Lib.hid hown3
  clear hown3
  try simp only [Act.put, List.setIfInBounds_toArray, List.set_cons_succ, List.set_cons_zero]
  refine wpHead_step (fun K hK => ?_) hS3
  go_simp
  refine hK _ _ hS3 ?_
  clear hK K
  try simp only [Act.put, List.setIfInBounds_toArray, List.set_cons_succ, List.set_cons_zero]
  refine wpHead_step (fun K hK => ?_) hS3
  go_simp
  have hS4 := hS3.alloc hS3.size (.cells (rlogCells (.slice A3 L.recs.length c3) L) 72)
  have hblk := heap_alloc_new w3 (.cells (rlogCells (.slice A3 L.recs.length c3) L) 72)
  have hown4 : OwnStrs 0 (w3.alloc (.cells (rlogCells (.slice A3 L.recs.length c3) L) 72)) (.slice A3 L.recs.length c3) L.recs := World.ownsRow.alloc HOWN3.out.zero _
  have hs4 : w3.heap.size < (w3.alloc (.cells (rlogCells (.slice A3 L.recs.length c3) L) 72)).heap.size := by simp
  change K _ (w3.alloc (.cells (rlogCells (.slice A3 L.recs.length c3) L) 72))
  refine hK _ _ hS4 ?_
  clear hK K
  generalize w3.alloc (.cells (rlogCells (.slice A3 L.recs.length c3) L) 72) = w4 at hS4 hblk hown4 hs4 ⊢
  have HB4 := Lib.hid hblk
  clear hblk
  refine wpHead_nil ?_
  (try dsimp only); repeat (first | go_values | go_skip | go_guarded | go_step | go_upon)
  go_ret
  have h3 := hS3.size
  refine ⟨w3.heap.size, rfl, hS4, _, HB4.out, hown4, .inr ⟨h3, hs4⟩, fun k hk => .inr ?_, fun k hk => ?_⟩
  · have h5 := HOWN3.out.lt k hk
    have := HS0.out
    exact ⟨by omega, by omega⟩
  · rcases hk with hk | hk
    · exact hk.elim
    · exact hk.2
end Go.Proofs.YtbdhicjebeoakaaDoor
