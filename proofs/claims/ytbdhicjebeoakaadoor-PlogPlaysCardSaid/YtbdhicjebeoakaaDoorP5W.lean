/- The walk of lockagelaw05.PlogPlays. -/
import Derived.Test.YtbdhicjebeoakaaDoorPlogP
set_option linter.unusedVariables false
set_option linter.unusedSimpArgs false
namespace Go.Proofs.YtbdhicjebeoakaaDoor
open Go.RowKit

section
variable {T : World → (Nat → Prop) → Prop} {W w : World} {lb db : Nat} {d : DSt} {L : LSt} {k : Nat}
def pL0 (B H : Nat) : LSt := ⟨B, H, 4294967296, 0, 0, [], []⟩
theorem pnew (B H : Nat) (w : World) (hB : B < 5) (h1 : 1 ≤ H) (h2 : H ≤ 30) : Calls Tryd.prog 29 #[.int .i64 ((B : Int) + 2 * (H : Int))] w fun e w' => ∃ b, e = .returned (.tuple #[.pointer (some ⟨b, 0, none⟩), .int .i64 0]) ∧ Own w w' b (DSt.new (B + 2 * H)) :=
  own_new (B + 2 * H) w (by omega) (by omega)
theorem popen0 (B H : Nat) (h : Own W w db (DSt.new (B + 2 * H))) (hB : B < 5) (h1 : 1 ≤ H) (h2 : H ≤ 30) : Calls Tryd.prog 30 #[.pointer (some ⟨db, 0, none⟩), .int .i64 (B : Int), .int .i64 (H : Int), .int .u32 1] w fun e w' =>
    ∃ lb, e = .returned (.tuple #[.pointer (some ⟨lb, 0, none⟩), .int .i64 0]) ∧ Duo TNone W w' lb db (pL0 B H) (DSt.new (B + 2 * H)) :=
  duo_first h (B + 2 * H) B H 1 rfl h1 (by omega) (by omega) (by omega) (by decide)
end
set_option maxRecDepth 20000 in
set_option maxHeartbeats 4000000 in
theorem plays5_walk (bs hf : Int) (ad : Option Addr) (n c : Nat) (x : Nat → OpV) (w : World) (hx : OpArg w ad n x) (hn : n ≤ 9223372036854775807) :
    Calls Tryd.prog 9 #[.int .i64 bs, .int .i64 hf, .slice ad n c] w fun e w' => e = .returned (.bool true) ∧ Below w.heap.size w w' := by
  have HAW := fun W => Lib.hid (awake5_ok W)
  obtain ⟨m, H, hm, hm2, hH1, hH2⟩ : ∃ m H : Nat, wrap64 ((IntKind.u64.wrap hf).tmod 30) = (m : Int) ∧ IntKind.i64.wrap (1 + (m : Int)) = (H : Int) ∧ 1 ≤ H ∧ H ≤ 30 := by
    obtain ⟨m, hm, hm30⟩ := mod_half hf 30 (by decide) (by decide)
    rw [show ((30 : Nat) : Int) = 30 from rfl] at hm
    exact ⟨m, 1 + m, hm, by rw [IntKind.wrap_i64]; omega, by omega, by omega⟩
  obtain ⟨B, hbm, hB5⟩ := mod_half bs 5 (by decide) (by decide)
  rw [show ((5 : Nat) : Int) = 5 from rfl] at hbm
  have HX := Lib.hid hx
  clear hx
  go_enter Tryd.func9, Tryd.ntmps9
  go_wp2_with fail
  refine (HAW _).out.mono ?_
  rintro e w1 ⟨rfl, hb1⟩
  have HB1 := Lib.hid hb1
  rw [hbm]
  clear hb1 hm hm2 hbm
  go_wp2_with fail
  refine (few_any (HX.out.on HB1.out) hn).mono ?_
  rintro e w2 ⟨rfl, hb2⟩
  have HB2 := Lib.hid (HB1.out.trans (hb2.mono HB1.out.size))
  clear hb2 HB1
  rcases hfew : fewB n x with _ | _
  case false =>
    clear hfew
    go_wp2_with fail
    refine (HAW _).out.mono ?_
    rintro e w3 ⟨rfl, hb3⟩
    have HB3 := Lib.hid (HB2.out.trans (hb3.mono HB2.out.size))
    clear hb3
    go_wp2_with fail
    go_ret
    exact ⟨rfl, HB3.out⟩
  obtain ⟨hn60, hlens⟩ := fewB_spec hfew
  have HLEN := Lib.hid hlens
  have hH3 : wrap64 (2 * (H : Int)) = 2 * (H : Int) := by unfold wrap64; omega
  have hH4 : wrap64 ((B : Int) + 2 * (H : Int)) = (B : Int) + 2 * (H : Int) := by unfold wrap64; omega
  clear hfew hlens
  go_wp2_with fail
  refine (pnew B H _ hB5 hH1 hH2).mono ?_
  rintro e w3 ⟨db, rfl, h3⟩
  have H3 := Lib.hid h3
  clear h3
  go_wp2_with fail
  refine (popen0 B H H3.out hB5 hH1 hH2).mono ?_
  rintro e w4 ⟨lb, rfl, h4⟩
  have H4 := Lib.hid h4
  clear h4 H3
  go_wp2_with fail
  have H5 := Lib.hid (H4.out.ref0 (M := pL0 B H) rfl)
  have C5 := Lib.hid (Calm.fresh (B + 2 * H) B H 4294967296 hH1 (by omega) (by omega) (by omega))
  clear H4
  change Code.wp _ _ _ _ (w4.alloc (.cells (rlogCells (.slice none 0 0) (pL0 B H)) 72))
  generalize w4.alloc (.cells (rlogCells (.slice none 0 0) (pL0 B H)) 72) = w5 at H5 ⊢
  generalize w4.heap.size = rb at H5 ⊢
  go_loopw [9, 56] (fun lv iv wr => ∃ (k lb : Nat) (L : LSt) (d : DSt), iv = .int .i64 (k : Int) ∧ lv = .pointer (some ⟨lb, 0, none⟩) ∧ k ≤ n ∧ L.base = B ∧ L.half = H ∧ L.stamp ≤ (k + 1) * 4294967296 + k ∧ Hid (Duo (TR rb L) w2 wr lb db L d) ∧ Hid (Calm L d k)) (fun _ i _ => match i with | .int _ k => n - k.toNat | _ => 0)
  case atStart => exact ⟨0, lb, pL0 B H, _, rfl, rfl, Nat.zero_le _, rfl, rfl, by show 4294967296 ≤ _; omega, H5, C5⟩
  case round =>
    obtain ⟨k, lb, L, d, rfl, rfl, hk, hLb, hLh, hLs, HD, HC⟩ := hrel
    by_cases hlt : k < n
    · obtain ⟨g, off, rfl⟩ := HX.out.form hlt
      have hc := HX.out.later (HB2.out.trans (HD.out.below.mono HB2.out.size)) hlt
      have hlen := HLEN.out k hlt
      generalize x k = oi at hc hlen
      obtain ⟨or_, oa, oc, ob⟩ := oi
      obtain ⟨r, rfl⟩ : ∃ r : List UInt8, or_ = ⟨r.toArray⟩ := ⟨or_.data.toList, by simp⟩
      obtain ⟨a, rfl⟩ : ∃ a : List UInt8, oa = ⟨a.toArray⟩ := ⟨oa.data.toList, by simp⟩
      have hrl : r.length ≤ 1000000 := by have := hlen.1; simp [ByteArray.size] at this; omega
      have hal : a.length ≤ 1000000 := by have := hlen.2; simp [ByteArray.size] at this; omega
      have HCL : Hid (∀ j v, [Value.string ⟨r.toArray⟩, .string ⟨a.toArray⟩, .int .i64 oc, .int .u64 ob][j]? = some v → wr.cell? ⟨g, off + k * 4 + j, none⟩ = some v) := Lib.hid hc
      clear hc hlen
      repeat (first | (go_not_at_region 12; first | ((with_reducible refine wpList_load_cells rfl _ _ rfl g (off + k * 4) (by go_simp) _ [.string ⟨r.toArray⟩, .string ⟨a.toArray⟩, .int .i64 oc, .int .u64 ob] Tryd.underlying76 rfl (by kernel_rfl) HCL.out ?_)) | go_values | go_skip | go_guarded | go_step | go_upon))
      have HP := Lib.hid (HD.out.block (framedR _ _) ((Below.refl _ _).alloc (Nat.le_refl _) _) (Nat.le_refl _) (heap_alloc_new wr (.cells #[.string ⟨r.toArray⟩, .string ⟨a.toArray⟩, .int .i64 oc, .int .u64 ob] 76)))
      generalize wr.alloc (.cells #[.string ⟨r.toArray⟩, .string ⟨a.toArray⟩, .int .i64 oc, .int .u64 ob] 76) = wa at HP ⊢
      generalize wr.heap.size = bo at HP ⊢
      have hxr := L.spec_recs r a
      have hrc := HC.out.recs
      have hlh := HC.out.half
      have hle := HC.out.ok.inv.le
      have happ := fun W (h : Duo (TP (TR rb L) bo (.cells #[.string ⟨r.toArray⟩, .string ⟨a.toArray⟩, .int .i64 oc, .int .u64 ob] 76 (0, 0))) w2 W lb db L d) => Lib.hid (duo_append2 h (framedP (framedR _ _) _ _) HC.out (by omega) (by omega) r a hrl hal)
      have hrapp := fun W db' lb' L' d' (h : Duo (TP (TR rb L) bo (.cells #[.string ⟨r.toArray⟩, .string ⟨a.toArray⟩, .int .i64 oc, .int .u64 ob] 76 (0, 0))) w2 W lb' db' L' d') => Lib.hid (rappP h r a hrl hal (by omega) hle (by omega))
      obtain ⟨X, hX⟩ : ∃ X, X = L.spec r a := ⟨_, rfl⟩
      rw [← hX] at hxr happ hrapp
      obtain ⟨xe, xL⟩ := X
      simp only at hxr happ hrapp
      have HAPP := Lib.hid happ
      have HRAPP := Lib.hid hrapp
      have HXR := Lib.hid hxr
      have hbb : (xe != xe) = false := by simp
      clear hX happ hrapp hxr HD HCL
      have HP := Lib.hid (HP.out.drew (framedP (framedR _ _) _ _))
      have kk := block_cell HP.out.blk
      have hS0 : wa.drew.cell? ⟨bo, 0, none⟩ = some (.string ⟨r.toArray⟩) ∧ wa.drew.cell? ⟨bo, 1, none⟩ = some (.string ⟨a.toArray⟩) := ⟨kk 0, kk 1⟩
      clear kk
      refine wp_head_tr 41 (.take 0 (.take 1 (.take 2 (.take 3 (.take 4 (.take 6 (.take 7 (.take 8 (.take 9 (.take 10 (.one 5 (.one 11 (.one 12 (.one 13 (.take 14 (.take 15 (.take 17 (.take 19 (.one 16 (.one 18 (.one 20 (.one 21 (.one 22 (.one 23 (.one 24 (.one 25 (.one 26 (.one 27 (.one 28 (.one 29 (.one 30 (.take 31 (.take 33 (.take 34 (.take 35 (.take 36 (.take 37 (.take 38 (.one 32 (.one 39 (.one 40 .done))))))))))))))))))))))))))))))))))))))))) (fun W => W.cell? ⟨bo, 0, none⟩ = some (.string ⟨r.toArray⟩) ∧ W.cell? ⟨bo, 1, none⟩ = some (.string ⟨a.toArray⟩)) (by kernel_rfl) (by kernel_rfl) (fun _ _ d _ _ h => by cases d <;> exact h) hS0 ?_
      generalize wa.drew = wb at HP hS0 ⊢
      refine wpTr_take (.pointer (some ⟨lb, 0, none⟩)) rfl (fun W hW => by clear hW; go_simp) ?_
      try simp only [Act.put, List.getD_cons_succ, List.getD_cons_zero, List.setIfInBounds_toArray, List.set_cons_succ, List.set_cons_zero]
      refine wpTr_take (.pointer (some ⟨bo, 0, none⟩)) rfl (fun W hW => by clear hW; go_simp) ?_
      try simp only [Act.put, List.getD_cons_succ, List.getD_cons_zero, List.setIfInBounds_toArray, List.set_cons_succ, List.set_cons_zero]
      refine wpTr_take (.string ⟨r.toArray⟩) rfl (fun W hW => by have h1 := hW.1; clear hW; go_simp) ?_
      try simp only [Act.put, List.getD_cons_succ, List.getD_cons_zero, List.setIfInBounds_toArray, List.set_cons_succ, List.set_cons_zero]
      refine wpTr_take (.pointer (some ⟨bo, 1, none⟩)) rfl (fun W hW => by clear hW; go_simp) ?_
      try simp only [Act.put, List.getD_cons_succ, List.getD_cons_zero, List.setIfInBounds_toArray, List.set_cons_succ, List.set_cons_zero]
      refine wpTr_take (.string ⟨a.toArray⟩) rfl (fun W hW => by have h1 := hW.2; clear hW; go_simp) ?_
      try simp only [Act.put, List.getD_cons_succ, List.getD_cons_zero, List.setIfInBounds_toArray, List.set_cons_succ, List.set_cons_zero]
      refine wpTr_take (.pointer (some ⟨rb, 0, none⟩)) rfl (fun W hW => by clear hW; go_simp) ?_
      try simp only [Act.put, List.getD_cons_succ, List.getD_cons_zero, List.setIfInBounds_toArray, List.set_cons_succ, List.set_cons_zero]
      refine wpTr_take (.pointer (some ⟨bo, 0, none⟩)) rfl (fun W hW => by clear hW; go_simp) ?_
      try simp only [Act.put, List.getD_cons_succ, List.getD_cons_zero, List.setIfInBounds_toArray, List.set_cons_succ, List.set_cons_zero]
      refine wpTr_take (.string ⟨r.toArray⟩) rfl (fun W hW => by have h1 := hW.1; clear hW; go_simp) ?_
      try simp only [Act.put, List.getD_cons_succ, List.getD_cons_zero, List.setIfInBounds_toArray, List.set_cons_succ, List.set_cons_zero]
      refine wpTr_take (.pointer (some ⟨bo, 1, none⟩)) rfl (fun W hW => by clear hW; go_simp) ?_
      try simp only [Act.put, List.getD_cons_succ, List.getD_cons_zero, List.setIfInBounds_toArray, List.set_cons_succ, List.set_cons_zero]
      refine wpTr_take (.string ⟨a.toArray⟩) rfl (fun W hW => by have h1 := hW.2; clear hW; go_simp) ?_
      try simp only [Act.put, List.getD_cons_succ, List.getD_cons_zero, List.setIfInBounds_toArray, List.set_cons_succ, List.set_cons_zero]
      refine wpTr_one (fun K hK => ?_)
      refine wpOne_met rfl ?_
      go_simp
      refine (HAPP.out _ HP.out).out.mono ?_
      rintro e w6 ⟨sx, dx, rfl, h6, hc6, hs6, hl6⟩
      have H6 := Lib.hid h6
      have C6 := Lib.hid hc6
      have S6 := Lib.hid hs6
      have L6 := Lib.hid hl6
      clear h6 hc6 hs6 hl6
      have kk := block_cell H6.out.blk
      have hS6 : w6.cell? ⟨bo, 0, none⟩ = some (.string ⟨r.toArray⟩) ∧ w6.cell? ⟨bo, 1, none⟩ = some (.string ⟨a.toArray⟩) := ⟨kk 0, kk 1⟩
      clear kk HP hS0
      dsimp only
      refine hK (fun W => W.cell? ⟨bo, 0, none⟩ = some (.string ⟨r.toArray⟩) ∧ W.cell? ⟨bo, 1, none⟩ = some (.string ⟨a.toArray⟩)) _ _ (fun _ h => h) hS6 ?_
      clear hK K
      try simp only [Act.put, List.getD_cons_succ, List.getD_cons_zero, List.setIfInBounds_toArray, List.set_cons_succ, List.set_cons_zero]
      refine wpTr_one (fun K hK => ?_)
      refine wpOne_met rfl ?_
      go_simp
      refine (HRAPP.out _ _ _ _ _ H6.out).out.mono ?_
      rintro e w7 ⟨_, rfl, h7⟩
      have H7 := Lib.hid h7
      clear h7 H6 hS6
      have kk := block_cell H7.out.blk
      obtain ⟨A7, c7, q0, q2, q3, q4, hat7⟩ := H7.out.drop.rcells
      have hS7 : (w7.cell? ⟨bo, 0, none⟩ = some (.string ⟨r.toArray⟩) ∧ w7.cell? ⟨bo, 1, none⟩ = some (.string ⟨a.toArray⟩)) ∧ w7.cell? ⟨rb, 4, none⟩ = some (.int .i64 (xL.at_ : Int)) := ⟨⟨kk 0, kk 1⟩, q4⟩
      clear kk q0 q2 q3 q4 hat7
      dsimp only
      refine hK (fun W => (W.cell? ⟨bo, 0, none⟩ = some (.string ⟨r.toArray⟩) ∧ W.cell? ⟨bo, 1, none⟩ = some (.string ⟨a.toArray⟩)) ∧ W.cell? ⟨rb, 4, none⟩ = some (.int .i64 (xL.at_ : Int))) _ _ (fun _ h => h.1) hS7 ?_
      clear hK K
      try simp only [Act.put, List.getD_cons_succ, List.getD_cons_zero, List.setIfInBounds_toArray, List.set_cons_succ, List.set_cons_zero]
      refine wpTr_one (fun K hK => ?_)
      refine wpOne_met rfl ?_
      go_simp
      refine hK (fun W => (W.cell? ⟨bo, 0, none⟩ = some (.string ⟨r.toArray⟩) ∧ W.cell? ⟨bo, 1, none⟩ = some (.string ⟨a.toArray⟩)) ∧ W.cell? ⟨rb, 4, none⟩ = some (.int .i64 (xL.at_ : Int))) _ _ (fun _ h => h) hS7 ?_
      clear hK K
      try simp only [Act.put, List.getD_cons_succ, List.getD_cons_zero, List.setIfInBounds_toArray, List.set_cons_succ, List.set_cons_zero]
      refine wpTr_one (fun K hK => ?_)
      refine wpOne_met rfl ?_
      go_simp
      refine hK (fun W => (W.cell? ⟨bo, 0, none⟩ = some (.string ⟨r.toArray⟩) ∧ W.cell? ⟨bo, 1, none⟩ = some (.string ⟨a.toArray⟩)) ∧ W.cell? ⟨rb, 4, none⟩ = some (.int .i64 (xL.at_ : Int))) _ _ (fun _ h => h) hS7 ?_
      clear hK K
      try simp only [Act.put, List.getD_cons_succ, List.getD_cons_zero, List.setIfInBounds_toArray, List.set_cons_succ, List.set_cons_zero]
      refine wpTr_take (.pointer (some ⟨rb, 0, none⟩)) rfl (fun W hW => by clear hW; go_simp) ?_
      try simp only [Act.put, List.getD_cons_succ, List.getD_cons_zero, List.setIfInBounds_toArray, List.set_cons_succ, List.set_cons_zero]
      refine wpTr_take (.pointer (some ⟨lb, 0, none⟩)) rfl (fun W hW => by clear hW; go_simp) ?_
      try simp only [Act.put, List.getD_cons_succ, List.getD_cons_zero, List.setIfInBounds_toArray, List.set_cons_succ, List.set_cons_zero]
      refine wpTr_take (.pointer (some ⟨lb, 0, none⟩)) rfl (fun W hW => by clear hW; go_simp) ?_
      try simp only [Act.put, List.getD_cons_succ, List.getD_cons_zero, List.setIfInBounds_toArray, List.set_cons_succ, List.set_cons_zero]
      refine wpTr_take (.pointer (some ⟨lb, 0, none⟩)) rfl (fun W hW => by clear hW; go_simp) ?_
      try simp only [Act.put, List.getD_cons_succ, List.getD_cons_zero, List.setIfInBounds_toArray, List.set_cons_succ, List.set_cons_zero]
      refine wpTr_one (fun K hK => ?_)
      refine wpOne_met rfl ?_
      go_simp
      refine (duo_gen H7.out).mono ?_
      rintro e w' ⟨rfl, rfl⟩
      dsimp only
      refine hK (fun W => (W.cell? ⟨bo, 0, none⟩ = some (.string ⟨r.toArray⟩) ∧ W.cell? ⟨bo, 1, none⟩ = some (.string ⟨a.toArray⟩)) ∧ W.cell? ⟨rb, 4, none⟩ = some (.int .i64 (xL.at_ : Int))) _ _ (fun _ h => h) hS7 ?_
      clear hK K
      try simp only [Act.put, List.getD_cons_succ, List.getD_cons_zero, List.setIfInBounds_toArray, List.set_cons_succ, List.set_cons_zero]
      refine wpTr_one (fun K hK => ?_)
      refine wpOne_met rfl ?_
      go_simp
      refine (duo_base H7.out).mono ?_
      rintro e w' ⟨rfl, rfl⟩
      dsimp only
      refine hK (fun W => (W.cell? ⟨bo, 0, none⟩ = some (.string ⟨r.toArray⟩) ∧ W.cell? ⟨bo, 1, none⟩ = some (.string ⟨a.toArray⟩)) ∧ W.cell? ⟨rb, 4, none⟩ = some (.int .i64 (xL.at_ : Int))) _ _ (fun _ h => h) hS7 ?_
      clear hK K
      try simp only [Act.put, List.getD_cons_succ, List.getD_cons_zero, List.setIfInBounds_toArray, List.set_cons_succ, List.set_cons_zero]
      refine wpTr_one (fun K hK => ?_)
      refine wpOne_met rfl ?_
      go_simp
      refine (duo_records H7.out C6.out (by omega)).mono ?_
      rintro e w8 ⟨v8, rfl, ho8, hb8⟩
      have H8 := Lib.hid (H7.out.later (framedP (framedR _ _) _ _) hb8)
      have V8 := Lib.hid ho8.at
      have hS8 := And.intro (And.intro ((hb8.cell (p := ⟨bo, 0, none⟩) (World.block_lt_of_cell? _ _ hS7.1.1)).trans hS7.1.1) ((hb8.cell (p := ⟨bo, 1, none⟩) (World.block_lt_of_cell? _ _ hS7.1.2)).trans hS7.1.2)) ((hb8.cell (p := ⟨rb, 4, none⟩) (World.block_lt_of_cell? _ _ hS7.2)).trans hS7.2)
      clear ho8 hb8 hS7 H7
      dsimp only
      refine hK (fun W => (W.cell? ⟨bo, 0, none⟩ = some (.string ⟨r.toArray⟩) ∧ W.cell? ⟨bo, 1, none⟩ = some (.string ⟨a.toArray⟩)) ∧ W.cell? ⟨rb, 4, none⟩ = some (.int .i64 (xL.at_ : Int))) _ _ (fun _ h => h) hS8 ?_
      clear hK K
      try simp only [Act.put, List.getD_cons_succ, List.getD_cons_zero, List.setIfInBounds_toArray, List.set_cons_succ, List.set_cons_zero]
      refine wpTr_one (fun K hK => ?_)
      refine wpOne_met rfl ?_
      go_simp
      refine (duo_rsame H8.out.drop _ _ _ _ V8.out).mono ?_
      rintro e w9 ⟨rfl, hb9⟩
      have H9 := Lib.hid (H8.out.later (framedP (framedR _ _) _ _) hb9)
      have hS9 := And.intro (And.intro ((hb9.cell (p := ⟨bo, 0, none⟩) (World.block_lt_of_cell? _ _ hS8.1.1)).trans hS8.1.1) ((hb9.cell (p := ⟨bo, 1, none⟩) (World.block_lt_of_cell? _ _ hS8.1.2)).trans hS8.1.2)) ((hb9.cell (p := ⟨rb, 4, none⟩) (World.block_lt_of_cell? _ _ hS8.2)).trans hS8.2)
      clear hb9 hS8 H8 V8
      rw [decide_eq_true (⟨rfl, rfl, rfl⟩ : xL.gen = xL.gen ∧ xL.first = xL.first ∧ xL.recs = xL.recs)]
      dsimp only
      refine hK (fun W => (W.cell? ⟨bo, 0, none⟩ = some (.string ⟨r.toArray⟩) ∧ W.cell? ⟨bo, 1, none⟩ = some (.string ⟨a.toArray⟩)) ∧ W.cell? ⟨rb, 4, none⟩ = some (.int .i64 (xL.at_ : Int))) _ _ (fun _ h => h) hS9 ?_
      clear hK K
      try simp only [Act.put, List.getD_cons_succ, List.getD_cons_zero, List.setIfInBounds_toArray, List.set_cons_succ, List.set_cons_zero]
      refine wpTr_one (fun K hK => ?_)
      refine wpOne_met rfl ?_
      go_simp
      refine hK (fun W => (W.cell? ⟨bo, 0, none⟩ = some (.string ⟨r.toArray⟩) ∧ W.cell? ⟨bo, 1, none⟩ = some (.string ⟨a.toArray⟩)) ∧ W.cell? ⟨rb, 4, none⟩ = some (.int .i64 (xL.at_ : Int))) _ _ (fun _ h => h) hS9 ?_
      clear hK K
      try simp only [Act.put, List.getD_cons_succ, List.getD_cons_zero, List.setIfInBounds_toArray, List.set_cons_succ, List.set_cons_zero]
      refine wpTr_one (fun K hK => ?_)
      refine wpOne_met rfl ?_
      go_simp
      refine hK (fun W => (W.cell? ⟨bo, 0, none⟩ = some (.string ⟨r.toArray⟩) ∧ W.cell? ⟨bo, 1, none⟩ = some (.string ⟨a.toArray⟩)) ∧ W.cell? ⟨rb, 4, none⟩ = some (.int .i64 (xL.at_ : Int))) _ _ (fun _ h => h) hS9 ?_
      clear hK K
      try simp only [Act.put, List.getD_cons_succ, List.getD_cons_zero, List.setIfInBounds_toArray, List.set_cons_succ, List.set_cons_zero]
      refine wpTr_one (fun K hK => ?_)
      refine wpOne_met rfl ?_
      go_simp
      refine hK (fun W => (W.cell? ⟨bo, 0, none⟩ = some (.string ⟨r.toArray⟩) ∧ W.cell? ⟨bo, 1, none⟩ = some (.string ⟨a.toArray⟩)) ∧ W.cell? ⟨rb, 4, none⟩ = some (.int .i64 (xL.at_ : Int))) _ _ (fun _ h => h) hS9 ?_
      clear hK K
      try simp only [Act.put, List.getD_cons_succ, List.getD_cons_zero, List.setIfInBounds_toArray, List.set_cons_succ, List.set_cons_zero]
      refine wpTr_one (fun K hK => ?_)
      refine wpOne_met rfl ?_
      go_simp
      refine hK (fun W => (W.cell? ⟨bo, 0, none⟩ = some (.string ⟨r.toArray⟩) ∧ W.cell? ⟨bo, 1, none⟩ = some (.string ⟨a.toArray⟩)) ∧ W.cell? ⟨rb, 4, none⟩ = some (.int .i64 (xL.at_ : Int))) _ _ (fun _ h => h) hS9 ?_
      clear hK K
      try simp only [Act.put, List.getD_cons_succ, List.getD_cons_zero, List.setIfInBounds_toArray, List.set_cons_succ, List.set_cons_zero]
      refine wpTr_one (fun K hK => ?_)
      refine wpOne_met rfl ?_
      go_simp
      refine hK (fun W => (W.cell? ⟨bo, 0, none⟩ = some (.string ⟨r.toArray⟩) ∧ W.cell? ⟨bo, 1, none⟩ = some (.string ⟨a.toArray⟩)) ∧ W.cell? ⟨rb, 4, none⟩ = some (.int .i64 (xL.at_ : Int))) _ _ (fun _ h => h) hS9 ?_
      clear hK K
      try simp only [Act.put, List.getD_cons_succ, List.getD_cons_zero, List.setIfInBounds_toArray, List.set_cons_succ, List.set_cons_zero]
      refine wpTr_one (fun K hK => ?_)
      refine wpOne_met rfl ?_
      go_simp
      refine hK (fun W => (W.cell? ⟨bo, 0, none⟩ = some (.string ⟨r.toArray⟩) ∧ W.cell? ⟨bo, 1, none⟩ = some (.string ⟨a.toArray⟩)) ∧ W.cell? ⟨rb, 4, none⟩ = some (.int .i64 (xL.at_ : Int))) _ _ (fun _ h => h) hS9 ?_
      clear hK K
      try simp only [Act.put, List.getD_cons_succ, List.getD_cons_zero, List.setIfInBounds_toArray, List.set_cons_succ, List.set_cons_zero]
      obtain ⟨A9, c9, q0, -, -, -, -⟩ := H9.out.drop.rcells
      have M9 := Lib.hid (show xL.half = H ∧ xL.base = B ∧ xL.at_ ≤ xL.half from ⟨by have := HXR.out; omega, by have := HXR.out; omega, C6.out.ok.inv.le⟩)
      rcases Nat.eq_zero_or_pos xL.gen with hg0 | hg0
      · have hgb : decide (0 < xL.gen) = false := decide_eq_false (by omega)
        clear hg0
        refine wpTr_one (fun K hK => ?_)
        refine wpOne_met rfl ?_
        go_simp
        refine hK (fun W => (W.cell? ⟨bo, 0, none⟩ = some (.string ⟨r.toArray⟩) ∧ W.cell? ⟨bo, 1, none⟩ = some (.string ⟨a.toArray⟩)) ∧ W.cell? ⟨rb, 4, none⟩ = some (.int .i64 (xL.at_ : Int))) _ _ (fun _ h => h) hS9 ?_
        clear hK K
        try simp only [Act.put, List.getD_cons_succ, List.getD_cons_zero, List.setIfInBounds_toArray, List.set_cons_succ, List.set_cons_zero]
        clear q0
        refine wpTr_one (fun K hK => ?_)
        refine wpOne_met rfl ?_
        go_simp
        refine hK (fun W => (W.cell? ⟨bo, 0, none⟩ = some (.string ⟨r.toArray⟩) ∧ W.cell? ⟨bo, 1, none⟩ = some (.string ⟨a.toArray⟩)) ∧ W.cell? ⟨rb, 4, none⟩ = some (.int .i64 (xL.at_ : Int))) _ _ (fun _ h => h) hS9 ?_
        clear hK K
        try simp only [Act.put, List.getD_cons_succ, List.getD_cons_zero, List.setIfInBounds_toArray, List.set_cons_succ, List.set_cons_zero]
        refine wpTr_one (fun K hK => ?_)
        refine wpOne_met rfl ?_
        go_simp
        refine hK (fun W => (W.cell? ⟨bo, 0, none⟩ = some (.string ⟨r.toArray⟩) ∧ W.cell? ⟨bo, 1, none⟩ = some (.string ⟨a.toArray⟩)) ∧ W.cell? ⟨rb, 4, none⟩ = some (.int .i64 (xL.at_ : Int))) _ _ (fun _ h => h) hS9 ?_
        clear hK K
        try simp only [Act.put, List.getD_cons_succ, List.getD_cons_zero, List.setIfInBounds_toArray, List.set_cons_succ, List.set_cons_zero]
        refine wpTr_skip rfl ?_
        simp only [Act.put, List.getD_cons_succ, List.getD_cons_zero, List.setIfInBounds_toArray, List.set_cons_succ, List.set_cons_zero]
        refine wpTr_skip rfl ?_
        simp only [Act.put, List.getD_cons_succ, List.getD_cons_zero, List.setIfInBounds_toArray, List.set_cons_succ, List.set_cons_zero]
        refine wpTr_skip rfl ?_
        simp only [Act.put, List.getD_cons_succ, List.getD_cons_zero, List.setIfInBounds_toArray, List.set_cons_succ, List.set_cons_zero]
        refine wpTr_skip rfl ?_
        simp only [Act.put, List.getD_cons_succ, List.getD_cons_zero, List.setIfInBounds_toArray, List.set_cons_succ, List.set_cons_zero]
        refine wpTr_skip rfl ?_
        simp only [Act.put, List.getD_cons_succ, List.getD_cons_zero, List.setIfInBounds_toArray, List.set_cons_succ, List.set_cons_zero]
        refine wpTr_skip rfl ?_
        simp only [Act.put, List.getD_cons_succ, List.getD_cons_zero, List.setIfInBounds_toArray, List.set_cons_succ, List.set_cons_zero]
        refine wpTr_skip rfl ?_
        simp only [Act.put, List.getD_cons_succ, List.getD_cons_zero, List.setIfInBounds_toArray, List.set_cons_succ, List.set_cons_zero]
        refine wpTr_one (fun K hK => ?_)
        refine wpOne_unmet rfl ?_
        simp only [Act.put, List.getD_cons_succ, List.getD_cons_zero, List.setIfInBounds_toArray, List.set_cons_succ, List.set_cons_zero]
        refine hK (fun W => (W.cell? ⟨bo, 0, none⟩ = some (.string ⟨r.toArray⟩) ∧ W.cell? ⟨bo, 1, none⟩ = some (.string ⟨a.toArray⟩)) ∧ W.cell? ⟨rb, 4, none⟩ = some (.int .i64 (xL.at_ : Int))) _ _ (fun _ h => h) hS9 ?_
        clear hK K
        try simp only [Act.put, List.getD_cons_succ, List.getD_cons_zero, List.setIfInBounds_toArray, List.set_cons_succ, List.set_cons_zero]
        refine wpTr_one (fun K hK => ?_)
        refine wpOne_unmet rfl ?_
        simp only [Act.put, List.getD_cons_succ, List.getD_cons_zero, List.setIfInBounds_toArray, List.set_cons_succ, List.set_cons_zero]
        refine hK (fun W => (W.cell? ⟨bo, 0, none⟩ = some (.string ⟨r.toArray⟩) ∧ W.cell? ⟨bo, 1, none⟩ = some (.string ⟨a.toArray⟩)) ∧ W.cell? ⟨rb, 4, none⟩ = some (.int .i64 (xL.at_ : Int))) _ _ (fun _ h => h) hS9 ?_
        clear hK K
        try simp only [Act.put, List.getD_cons_succ, List.getD_cons_zero, List.setIfInBounds_toArray, List.set_cons_succ, List.set_cons_zero]
        refine wpTr_one (fun K hK => ?_)
        refine wpOne_met rfl ?_
        go_simp
        refine hK (fun W => (W.cell? ⟨bo, 0, none⟩ = some (.string ⟨r.toArray⟩) ∧ W.cell? ⟨bo, 1, none⟩ = some (.string ⟨a.toArray⟩)) ∧ W.cell? ⟨rb, 4, none⟩ = some (.int .i64 (xL.at_ : Int))) _ _ (fun _ h => h) hS9 ?_
        clear hK K
        try simp only [Act.put, List.getD_cons_succ, List.getD_cons_zero, List.setIfInBounds_toArray, List.set_cons_succ, List.set_cons_zero]
        refine wpTr_done ?_
        have HT := Lib.hid H9.out.drop
        clear H9 hS9
        go_wp2_with fail
        refine (duo_open HT.out (framedR _ _) C6.out (k + 2) (by omega) (base := B) (half := H) (by have := HXR.out; simp only; omega) (by have := HXR.out; simp only; omega)).mono ?_
        rintro e w11 ⟨mb, rfl, h11, h12⟩
        have H11 := Lib.hid h11
        have H12 := Lib.hid h12
        have C12 := Lib.hid (C6.out.again ((k + 2) * 4294967296) (by have := S6.out; simp only; omega))
        clear h11 h12 HT
        simp only at H12 C12
        go_wp2_with fail
        refine (duo_gen H12.out).mono ?_
        rintro e w' ⟨rfl, rfl⟩
        go_wp2_with fail
        refine (duo_base H12.out).mono ?_
        rintro e w' ⟨rfl, rfl⟩
        go_wp2_with fail
        refine (duo_records H12.out C12.out (by omega)).mono ?_
        rintro e w12 ⟨v12, rfl, ho12, hb12⟩
        have H11 := Lib.hid (H11.out.later (framedR _ _) hb12)
        have H12 := Lib.hid (H12.out.later (framedR _ _) hb12)
        have V12 := Lib.hid ho12.at
        clear ho12 hb12
        simp only
        go_wp2_with fail
        refine (duo_rsame H12.out _ _ _ _ V12.out).mono ?_
        rintro e w13 ⟨rfl, hb13⟩
        have H11 := Lib.hid (H11.out.later (framedR _ _) hb13)
        have H12 := Lib.hid (H12.out.later (framedR _ _) hb13)
        clear hb13 V12
        rw [decide_eq_true (⟨rfl, rfl, rfl⟩ : xL.gen = xL.gen ∧ xL.first = xL.first ∧ xL.recs = xL.recs)]
        go_wp2_with fail
        refine (duo_room H12.out C12.out).mono ?_
        rintro e w14 ⟨rfl, hb14⟩
        have H11 := Lib.hid (H11.out.later (framedR _ _) hb14)
        have H12 := Lib.hid (H12.out.later (framedR _ _) hb14)
        clear hb14
        rw [show ({ xL with stamp := (k + 2) * 4294967296 } : LSt).room = xL.room from rfl]
        go_wp2_with fail
        refine (duo_room H11.out C6.out).mono ?_
        rintro e w15 ⟨rfl, hb15⟩
        have H11 := Lib.hid (H11.out.later (framedR _ _) hb15)
        have H12 := Lib.hid (H12.out.later (framedR _ _) hb15)
        clear hb15
        rw [show ({ xL with stamp := sx } : LSt).room = xL.room from rfl]
        have hrr : ((xL.room : Int) != (xL.room : Int)) = false := by simp
        go_wp2_with fail
        all_goals first
          | exact ⟨⟨k + 1, lb, _, dx, rfl, rfl, by omega, (by have := HXR.out; simp only; omega), (by have := HXR.out; simp only; omega), (by have := S6.out; simp only; omega), Lib.hid (TR.like H11.out rfl rfl rfl rfl rfl), C6⟩, (by show n - ((k : Int) + 1).toNat < n - (k : Int).toNat; omega)⟩
          | exact ⟨⟨k + 1, mb, _, dx, rfl, rfl, by omega, (by have := HXR.out; simp only; omega), (by have := HXR.out; simp only; omega), (by simp only; omega), Lib.hid (TR.like H12.out rfl rfl rfl rfl rfl), C12⟩, (by show n - ((k : Int) + 1).toNat < n - (k : Int).toNat; omega)⟩
      · have hgb : decide (0 < xL.gen) = true := decide_eq_true hg0
        refine wpTr_one (fun K hK => ?_)
        refine wpOne_met rfl ?_
        go_simp
        refine hK (fun W => (W.cell? ⟨bo, 0, none⟩ = some (.string ⟨r.toArray⟩) ∧ W.cell? ⟨bo, 1, none⟩ = some (.string ⟨a.toArray⟩)) ∧ W.cell? ⟨rb, 4, none⟩ = some (.int .i64 (xL.at_ : Int))) _ _ (fun _ h => h) hS9 ?_
        clear hK K
        try simp only [Act.put, List.getD_cons_succ, List.getD_cons_zero, List.setIfInBounds_toArray, List.set_cons_succ, List.set_cons_zero]
        clear q0
        refine wpTr_one (fun K hK => ?_)
        refine wpOne_met rfl ?_
        go_simp
        refine hK (fun W => (W.cell? ⟨bo, 0, none⟩ = some (.string ⟨r.toArray⟩) ∧ W.cell? ⟨bo, 1, none⟩ = some (.string ⟨a.toArray⟩)) ∧ W.cell? ⟨rb, 4, none⟩ = some (.int .i64 (xL.at_ : Int))) _ _ (fun _ h => h) hS9 ?_
        clear hK K
        try simp only [Act.put, List.getD_cons_succ, List.getD_cons_zero, List.setIfInBounds_toArray, List.set_cons_succ, List.set_cons_zero]
        refine wpTr_one (fun K hK => ?_)
        refine wpOne_met rfl ?_
        go_simp
        refine hK (fun W => (W.cell? ⟨bo, 0, none⟩ = some (.string ⟨r.toArray⟩) ∧ W.cell? ⟨bo, 1, none⟩ = some (.string ⟨a.toArray⟩)) ∧ W.cell? ⟨rb, 4, none⟩ = some (.int .i64 (xL.at_ : Int))) _ _ (fun _ h => h) hS9 ?_
        clear hK K
        try simp only [Act.put, List.getD_cons_succ, List.getD_cons_zero, List.setIfInBounds_toArray, List.set_cons_succ, List.set_cons_zero]
        refine wpTr_take (.pointer (some ⟨lb, 0, none⟩)) rfl (fun W hW => by clear hW; go_simp) ?_
        try simp only [Act.put, List.getD_cons_succ, List.getD_cons_zero, List.setIfInBounds_toArray, List.set_cons_succ, List.set_cons_zero]
        refine wpTr_take (.int .i64 (H : Int)) rfl (fun W hW => by clear hW; go_simp) ?_
        try simp only [Act.put, List.getD_cons_succ, List.getD_cons_zero, List.setIfInBounds_toArray, List.set_cons_succ, List.set_cons_zero]
        refine wpTr_take (.pointer (some ⟨rb, 0, none⟩)) rfl (fun W hW => by clear hW; go_simp) ?_
        try simp only [Act.put, List.getD_cons_succ, List.getD_cons_zero, List.setIfInBounds_toArray, List.set_cons_succ, List.set_cons_zero]
        refine wpTr_take (.pointer (some ⟨rb, 0, none⟩)) rfl (fun W hW => by clear hW; go_simp) ?_
        try simp only [Act.put, List.getD_cons_succ, List.getD_cons_zero, List.setIfInBounds_toArray, List.set_cons_succ, List.set_cons_zero]
        refine wpTr_take (.pointer (some ⟨rb, 4, none⟩)) rfl (fun W hW => by clear hW; go_simp) ?_
        try simp only [Act.put, List.getD_cons_succ, List.getD_cons_zero, List.setIfInBounds_toArray, List.set_cons_succ, List.set_cons_zero]
        refine wpTr_take (.int .i64 (xL.at_ : Int)) rfl (fun W hW => by have h1 := hW.2; clear hW; go_simp) ?_
        try simp only [Act.put, List.getD_cons_succ, List.getD_cons_zero, List.setIfInBounds_toArray, List.set_cons_succ, List.set_cons_zero]
        have hsub : IntKind.i64.wrap ((H : Int) - (xL.at_ : Int)) = (H : Int) - (xL.at_ : Int) := by rw [IntKind.wrap_i64]; have := M9.out; omega
        refine wpTr_take (.int .i64 ((H : Int) - (xL.at_ : Int))) rfl (fun W hW => by clear hW; go_simp) ?_
        try simp only [Act.put, List.getD_cons_succ, List.getD_cons_zero, List.setIfInBounds_toArray, List.set_cons_succ, List.set_cons_zero]
        refine wpTr_one (fun K hK => ?_)
        refine wpOne_met rfl ?_
        go_simp
        have hrm := proom H9.out hg0 M9.out.2.2 (by show xL.half ≤ 2000; have := M9.out; omega)
        rw [show ({ xL with stamp := sx } : LSt).half = H from M9.out.1] at hrm
        refine hrm.mono ?_
        rintro e w10 ⟨rfl, hb10⟩
        have H9 := Lib.hid (H9.out.later (framedP (framedR _ _) _ _) hb10)
        have hS9 := And.intro (And.intro ((hb10.cell (p := ⟨bo, 0, none⟩) (World.block_lt_of_cell? _ _ hS9.1.1)).trans hS9.1.1) ((hb10.cell (p := ⟨bo, 1, none⟩) (World.block_lt_of_cell? _ _ hS9.1.2)).trans hS9.1.2)) ((hb10.cell (p := ⟨rb, 4, none⟩) (World.block_lt_of_cell? _ _ hS9.2)).trans hS9.2)
        clear hb10 hrm
        dsimp only
        refine hK (fun W => (W.cell? ⟨bo, 0, none⟩ = some (.string ⟨r.toArray⟩) ∧ W.cell? ⟨bo, 1, none⟩ = some (.string ⟨a.toArray⟩)) ∧ W.cell? ⟨rb, 4, none⟩ = some (.int .i64 (xL.at_ : Int))) _ _ (fun _ h => h) hS9 ?_
        clear hK K
        try simp only [Act.put, List.getD_cons_succ, List.getD_cons_zero, List.setIfInBounds_toArray, List.set_cons_succ, List.set_cons_zero]
        have hne : ((H : Int) - (xL.at_ : Int) != (H : Int) - (xL.at_ : Int)) = false := by simp
        refine wpTr_one (fun K hK => ?_)
        refine wpOne_met rfl ?_
        go_simp
        refine hK (fun W => (W.cell? ⟨bo, 0, none⟩ = some (.string ⟨r.toArray⟩) ∧ W.cell? ⟨bo, 1, none⟩ = some (.string ⟨a.toArray⟩)) ∧ W.cell? ⟨rb, 4, none⟩ = some (.int .i64 (xL.at_ : Int))) _ _ (fun _ h => h) hS9 ?_
        clear hK K
        try simp only [Act.put, List.getD_cons_succ, List.getD_cons_zero, List.setIfInBounds_toArray, List.set_cons_succ, List.set_cons_zero]
        refine wpTr_one (fun K hK => ?_)
        refine wpOne_met rfl ?_
        go_simp
        refine hK (fun W => (W.cell? ⟨bo, 0, none⟩ = some (.string ⟨r.toArray⟩) ∧ W.cell? ⟨bo, 1, none⟩ = some (.string ⟨a.toArray⟩)) ∧ W.cell? ⟨rb, 4, none⟩ = some (.int .i64 (xL.at_ : Int))) _ _ (fun _ h => h) hS9 ?_
        clear hK K
        try simp only [Act.put, List.getD_cons_succ, List.getD_cons_zero, List.setIfInBounds_toArray, List.set_cons_succ, List.set_cons_zero]
        refine wpTr_done ?_
        have HT := Lib.hid H9.out.drop
        clear H9 hS9
        go_wp2_with fail
        refine (duo_open HT.out (framedR _ _) C6.out (k + 2) (by omega) (base := B) (half := H) (by have := HXR.out; simp only; omega) (by have := HXR.out; simp only; omega)).mono ?_
        rintro e w11 ⟨mb, rfl, h11, h12⟩
        have H11 := Lib.hid h11
        have H12 := Lib.hid h12
        have C12 := Lib.hid (C6.out.again ((k + 2) * 4294967296) (by have := S6.out; simp only; omega))
        clear h11 h12 HT
        simp only at H12 C12
        go_wp2_with fail
        refine (duo_gen H12.out).mono ?_
        rintro e w' ⟨rfl, rfl⟩
        go_wp2_with fail
        refine (duo_base H12.out).mono ?_
        rintro e w' ⟨rfl, rfl⟩
        go_wp2_with fail
        refine (duo_records H12.out C12.out (by omega)).mono ?_
        rintro e w12 ⟨v12, rfl, ho12, hb12⟩
        have H11 := Lib.hid (H11.out.later (framedR _ _) hb12)
        have H12 := Lib.hid (H12.out.later (framedR _ _) hb12)
        have V12 := Lib.hid ho12.at
        clear ho12 hb12
        simp only
        go_wp2_with fail
        refine (duo_rsame H12.out _ _ _ _ V12.out).mono ?_
        rintro e w13 ⟨rfl, hb13⟩
        have H11 := Lib.hid (H11.out.later (framedR _ _) hb13)
        have H12 := Lib.hid (H12.out.later (framedR _ _) hb13)
        clear hb13 V12
        rw [decide_eq_true (⟨rfl, rfl, rfl⟩ : xL.gen = xL.gen ∧ xL.first = xL.first ∧ xL.recs = xL.recs)]
        go_wp2_with fail
        refine (duo_room H12.out C12.out).mono ?_
        rintro e w14 ⟨rfl, hb14⟩
        have H11 := Lib.hid (H11.out.later (framedR _ _) hb14)
        have H12 := Lib.hid (H12.out.later (framedR _ _) hb14)
        clear hb14
        rw [show ({ xL with stamp := (k + 2) * 4294967296 } : LSt).room = xL.room from rfl]
        go_wp2_with fail
        refine (duo_room H11.out C6.out).mono ?_
        rintro e w15 ⟨rfl, hb15⟩
        have H11 := Lib.hid (H11.out.later (framedR _ _) hb15)
        have H12 := Lib.hid (H12.out.later (framedR _ _) hb15)
        clear hb15
        rw [show ({ xL with stamp := sx } : LSt).room = xL.room from rfl]
        have hrr : ((xL.room : Int) != (xL.room : Int)) = false := by simp
        go_wp2_with fail
        all_goals first
          | exact ⟨⟨k + 1, lb, _, dx, rfl, rfl, by omega, (by have := HXR.out; simp only; omega), (by have := HXR.out; simp only; omega), (by have := S6.out; simp only; omega), Lib.hid (TR.like H11.out rfl rfl rfl rfl rfl), C6⟩, (by show n - ((k : Int) + 1).toNat < n - (k : Int).toNat; omega)⟩
          | exact ⟨⟨k + 1, mb, _, dx, rfl, rfl, by omega, (by have := HXR.out; simp only; omega), (by have := HXR.out; simp only; omega), (by simp only; omega), Lib.hid (TR.like H12.out rfl rfl rfl rfl rfl), C12⟩, (by show n - ((k : Int) + 1).toNat < n - (k : Int).toNat; omega)⟩
    · obtain rfl : k = n := by omega
      obtain ⟨G, hdk⟩ := HD.out.disk
      have HSEC := Lib.hid (secs_any hdk B H (by have := HC.out.fit; omega))
      have hrst := HC.out.ok.rst
      rw [hLb, hLh] at hrst
      have hkl : (halfL d.kept B (2 * H)).length = 2 * H := halfL_length (by have := HC.out.fit; omega)
      have hks : ∀ t ∈ halfL d.kept B (2 * H), t.length ≤ 1000000 := fun t ht => by
        have := HC.out.ok.wf.all t (List.mem_of_mem_drop (List.mem_of_mem_take ht))
        omega
      have HRST := Lib.hid hrst
      have HKL := Lib.hid hkl
      have HKS := Lib.hid hks
      clear hdk hrst hkl hks hlt
      go_wp2_with fail
      refine HSEC.out.mono ?_
      rintro e w6 ⟨v6, rfl, ho6, hb6⟩
      have HD := Lib.hid (HD.out.later (framedR _ _) hb6)
      have HO6 := Lib.hid ho6
      clear ho6 hb6
      go_wp2_with fail
      refine (ropen_any HO6.out H hH1 (by omega) HKL.out HKS.out).mono ?_
      rintro e w7 ⟨xb, rfl, h7⟩
      have HD := Lib.hid (HD.out.later (framedR _ _) h7.below)
      have hx7 := h7.log
      rw [HRST.out] at hx7
      have HX7 := Lib.hid hx7
      clear h7 hx7 HO6
      (try dsimp only); repeat (first | (go_not_at_region 21; first | go_values | go_skip | go_guarded | go_step | go_upon))
      have HD := Lib.hid (HD.out.drew (framedR _ _))
      have HX7 := Lib.hid (HX7.out.below (show Below w7.heap.size w7 w7.drew from (Below.refl _ _).drew))
      obtain ⟨A7, c7, q0, q2, q3, -, hat7⟩ := HD.out.rcells
      have hS0 : w7.drew.cell? ⟨rb, 0, none⟩ = some (.int .i64 (L.gen : Int)) ∧ w7.drew.cell? ⟨rb, 2, none⟩ = some (.string ⟨L.first.toArray⟩) ∧ w7.drew.cell? ⟨rb, 3, none⟩ = some (.slice A7 L.recs.length c7) := ⟨q0, q2, q3⟩
      have HAT := Lib.hid hat7
      clear q0 q2 q3 hat7
      refine wp_head_tr 14 (.take 0 (.take 1 (.take 2 (.take 3 (.take 4 (.take 5 (.take 6 (.take 7 (.take 8 (.take 9 (.take 10 (.take 11 (.take 12 (.one 13 .done)))))))))))))) (fun W => W.cell? ⟨rb, 0, none⟩ = some (.int .i64 (L.gen : Int)) ∧ W.cell? ⟨rb, 2, none⟩ = some (.string ⟨L.first.toArray⟩) ∧ W.cell? ⟨rb, 3, none⟩ = some (.slice A7 L.recs.length c7)) (by kernel_rfl) (by kernel_rfl) (fun _ _ d _ _ h => by cases d <;> exact h) hS0 ?_
      generalize w7.drew = w8 at HD HX7 hS0 HAT ⊢
      refine wpTr_take (.pointer (some ⟨xb, 0, none⟩)) rfl (fun W hW => by clear hW; go_simp) ?_
      try simp only [Act.put, List.getD_cons_succ, List.getD_cons_zero, List.setIfInBounds_toArray, List.set_cons_succ, List.set_cons_zero]
      refine wpTr_take (.pointer (some ⟨rb, 0, none⟩)) rfl (fun W hW => by clear hW; go_simp) ?_
      try simp only [Act.put, List.getD_cons_succ, List.getD_cons_zero, List.setIfInBounds_toArray, List.set_cons_succ, List.set_cons_zero]
      refine wpTr_take (.pointer (some ⟨rb, 0, none⟩)) rfl (fun W hW => by clear hW; go_simp) ?_
      try simp only [Act.put, List.getD_cons_succ, List.getD_cons_zero, List.setIfInBounds_toArray, List.set_cons_succ, List.set_cons_zero]
      refine wpTr_take (.pointer (some ⟨rb, 0, none⟩)) rfl (fun W hW => by clear hW; go_simp) ?_
      try simp only [Act.put, List.getD_cons_succ, List.getD_cons_zero, List.setIfInBounds_toArray, List.set_cons_succ, List.set_cons_zero]
      refine wpTr_take (.int .i64 (L.gen : Int)) rfl (fun W hW => by have h1 := hW.1; clear hW; go_simp) ?_
      try simp only [Act.put, List.getD_cons_succ, List.getD_cons_zero, List.setIfInBounds_toArray, List.set_cons_succ, List.set_cons_zero]
      refine wpTr_take (.pointer (some ⟨rb, 0, none⟩)) rfl (fun W hW => by clear hW; go_simp) ?_
      try simp only [Act.put, List.getD_cons_succ, List.getD_cons_zero, List.setIfInBounds_toArray, List.set_cons_succ, List.set_cons_zero]
      refine wpTr_take (.pointer (some ⟨rb, 0, none⟩)) rfl (fun W hW => by clear hW; go_simp) ?_
      try simp only [Act.put, List.getD_cons_succ, List.getD_cons_zero, List.setIfInBounds_toArray, List.set_cons_succ, List.set_cons_zero]
      refine wpTr_take (.pointer (some ⟨rb, 2, none⟩)) rfl (fun W hW => by clear hW; go_simp) ?_
      try simp only [Act.put, List.getD_cons_succ, List.getD_cons_zero, List.setIfInBounds_toArray, List.set_cons_succ, List.set_cons_zero]
      refine wpTr_take (.string ⟨L.first.toArray⟩) rfl (fun W hW => by have h1 := hW.2.1; clear hW; go_simp) ?_
      try simp only [Act.put, List.getD_cons_succ, List.getD_cons_zero, List.setIfInBounds_toArray, List.set_cons_succ, List.set_cons_zero]
      refine wpTr_take (.pointer (some ⟨rb, 0, none⟩)) rfl (fun W hW => by clear hW; go_simp) ?_
      try simp only [Act.put, List.getD_cons_succ, List.getD_cons_zero, List.setIfInBounds_toArray, List.set_cons_succ, List.set_cons_zero]
      refine wpTr_take (.pointer (some ⟨rb, 0, none⟩)) rfl (fun W hW => by clear hW; go_simp) ?_
      try simp only [Act.put, List.getD_cons_succ, List.getD_cons_zero, List.setIfInBounds_toArray, List.set_cons_succ, List.set_cons_zero]
      refine wpTr_take (.pointer (some ⟨rb, 3, none⟩)) rfl (fun W hW => by clear hW; go_simp) ?_
      try simp only [Act.put, List.getD_cons_succ, List.getD_cons_zero, List.setIfInBounds_toArray, List.set_cons_succ, List.set_cons_zero]
      refine wpTr_take (.slice A7 L.recs.length c7) rfl (fun W hW => by have h1 := hW.2.2; clear hW; go_simp) ?_
      try simp only [Act.put, List.getD_cons_succ, List.getD_cons_zero, List.setIfInBounds_toArray, List.set_cons_succ, List.set_cons_zero]
      refine wpTr_one (fun K hK => ?_)
      refine wpOne_met rfl ?_
      go_simp
      refine (rsame_any HX7.out L.gen L.first _ L.recs HAT.out).mono ?_
      rintro e w9 ⟨rfl, hb9⟩
      have HD := Lib.hid (HD.out.later (framedR _ _) hb9)
      have hS9 := And.intro ((hb9.cell (p := ⟨rb, 0, none⟩) (World.block_lt_of_cell? _ _ hS0.1)).trans hS0.1) (And.intro ((hb9.cell (p := ⟨rb, 2, none⟩) (World.block_lt_of_cell? _ _ hS0.2.1)).trans hS0.2.1) ((hb9.cell (p := ⟨rb, 3, none⟩) (World.block_lt_of_cell? _ _ hS0.2.2)).trans hS0.2.2))
      rw [decide_eq_true (⟨rfl, rfl, rfl⟩ : L.gen = L.gen ∧ L.first = L.first ∧ L.recs = L.recs)]
      dsimp only
      refine hK _ _ _ (fun _ h => h) hS9 ?_
      clear hK K hS0 hS9 hb9
      try simp only [Act.put, List.getD_cons_succ, List.getD_cons_zero, List.setIfInBounds_toArray, List.set_cons_succ, List.set_cons_zero]
      refine wpTr_done ?_
      go_wp2_with fail
      go_ret
      exact ⟨rfl, HB2.out.trans (HD.out.below.mono HB2.out.size)⟩
end Go.Proofs.YtbdhicjebeoakaaDoor
