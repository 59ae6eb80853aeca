/- The walk of lockagelaw05.PlogCrashes. -/
import Derived.Test.YtbdhicjebeoakaaDoorLogX
import Derived.Test.YtbdhicjebeoakaaDoorAw5
import Derived.Test.YtbdhicjebeoakaaDoorOps5
set_option linter.unusedVariables false
set_option linter.unusedSimpArgs false
namespace Go.Proofs.YtbdhicjebeoakaaDoor
open Go.RowKit

theorem mod_half (c : Int) (m : Nat) (hm : 0 < m) (hm2 : m ≤ 1000) : ∃ n : Nat, wrap64 ((IntKind.u64.wrap c).tmod (m : Int)) = (n : Int) ∧ n < m := by
  have h : 0 ≤ IntKind.u64.wrap c := by simp [IntKind.wrap, IntKind.bits, IntKind.signed]; omega
  rw [Int.tmod_eq_emod_of_nonneg h]
  have h1 := Int.emod_nonneg (IntKind.u64.wrap c) (show (m : Int) ≠ 0 by omega)
  have h2 := Int.emod_lt_of_pos (IntKind.u64.wrap c) (show (0 : Int) < m by omega)
  refine ⟨(IntKind.u64.wrap c % (m : Int)).toNat, ?_, by omega⟩
  unfold wrap64
  omega
section
variable {T : World → (Nat → Prop) → Prop} {W w : World} {lb db : Nat} {d : DSt} {L M : LSt} {k : Nat}
def cL0 (H : Nat) : LSt := ⟨0, H, 4294967296, 0, 0, [], []⟩
theorem spec_e (L : LSt) (r a : List UInt8) : (L.spec r a).1 ≠ 5 := by
  unfold LSt.spec
  split
  · simp
  · split
    · simp
    · split
      · simp
      · simp
theorem spec_new (L : LSt) (r a : List UInt8) (h : (L.spec r a).1 = 0) : ¬ (L.gen = (L.spec r a).2.gen ∧ L.first = (L.spec r a).2.first ∧ L.recs = (L.spec r a).2.recs) := by
  unfold LSt.spec at h ⊢
  split at h
  · cases h
  · rename_i h1
    rw [if_neg h1]
    split at h
    · rename_i h2
      rw [if_pos h2]
      rintro ⟨_, _, e⟩
      have := congrArg List.length e
      simp at this
    · rename_i h2
      rw [if_neg h2]
      split at h
      · cases h
      · rename_i h3
        rw [if_neg h3]
        rintro ⟨e, _, _⟩
        simp at e
theorem cnew (H : Nat) (w : World) (h1 : 1 ≤ H) (h2 : H ≤ 30) : Calls Tryd.prog 29 #[.int .i64 (2 * (H : Int))] w fun e w' => ∃ b, e = .returned (.tuple #[.pointer (some ⟨b, 0, none⟩), .int .i64 0]) ∧ Own w w' b (DSt.new (2 * H)) :=
  own_new (2 * H) w (by omega) (by omega)
theorem copen0 (H : Nat) (h : Own W w db (DSt.new (2 * H))) (h1 : 1 ≤ H) (h2 : H ≤ 30) : Calls Tryd.prog 30 #[.pointer (some ⟨db, 0, none⟩), .int .i64 0, .int .i64 (H : Int), .int .u32 1] w fun e w' =>
    ∃ lb, e = .returned (.tuple #[.pointer (some ⟨lb, 0, none⟩), .int .i64 0]) ∧ Duo TNone W w' lb db (cL0 H) (DSt.new (2 * H)) :=
  duo_first h (2 * H) 0 H 1 rfl h1 (by omega) (by omega) (by omega) (by decide)
/-- The reference's log, made. -/
theorem Duo.ref0 (h : Duo TNone W w lb db L d) {M : LSt} (hM : M.recs = []) : Duo (TR w.heap.size M) W (w.alloc (.cells (rlogCells (.slice none 0 0) M) 72)) lb db L d := by
  refine h.with_ (E := fun k => k = w.heap.size) ((Below.refl _ _).alloc (Nat.le_refl _) _) (fun k hk => ?_) ⟨.slice none 0 0, heap_alloc_new _ _, ?_, rfl, fun k hk => by simp [Value.ownBlock] at hk, fun k hk => ?_⟩
  · have hk' : k = w.heap.size := hk
    rw [hk']; simp
  · rw [hM]; exact World.ownsRow_nil _ _ _ _
  · have hk' : k = w.heap.size := hk
    rw [hk']; simp
end
set_option maxRecDepth 20000 in
set_option maxHeartbeats 4000000 in
theorem crashes_walk (hf : Int) (ad : Option Addr) (n c : Nat) (x : Nat → OpV) (w : World) (hx : OpArg w ad n x) (hn : n ≤ 9223372036854775807) :
    Calls Tryd.prog 10 #[.int .i64 hf, .slice ad n c] w fun e w' => e = .returned (.bool true) ∧ Below w.heap.size w w' := by
  have HAW := fun W => Lib.hid (awake5_ok W)
  obtain ⟨m, H, hm, hm2, hH1, hH2⟩ : ∃ m H : Nat, wrap64 ((IntKind.u64.wrap hf).tmod 30) = (m : Int) ∧ IntKind.i64.wrap (1 + (m : Int)) = (H : Int) ∧ 1 ≤ H ∧ H ≤ 30 := by
    obtain ⟨m, hm, hm30⟩ := mod_half hf 30 (by decide) (by decide)
    rw [show ((30 : Nat) : Int) = 30 from rfl] at hm
    exact ⟨m, 1 + m, hm, by rw [IntKind.wrap_i64]; omega, by omega, by omega⟩
  have HX := Lib.hid hx
  clear hx
  go_enter Tryd.func10, Tryd.ntmps10
  go_wp2_with fail
  refine (HAW _).out.mono ?_
  rintro e w1 ⟨rfl, hb1⟩
  have HB1 := Lib.hid hb1
  clear hb1 hm hm2
  go_wp2_with fail
  refine (few_any (HX.out.on HB1.out) hn).mono ?_
  rintro e w2 ⟨rfl, hb2⟩
  have HB2 := Lib.hid (HB1.out.trans (hb2.mono HB1.out.size))
  clear hb2 HB1
  rcases hfew : fewB n x with _ | _
  case false =>
    clear hfew
    go_wp2_with fail
    refine (HAW _).out.mono ?_
    rintro e w3 ⟨rfl, hb3⟩
    have HB3 := Lib.hid (HB2.out.trans (hb3.mono HB2.out.size))
    clear hb3
    go_wp2_with fail
    go_ret
    exact ⟨rfl, HB3.out⟩
  obtain ⟨hn60, hlens⟩ := fewB_spec hfew
  have HLEN := Lib.hid hlens
  have hH3 : wrap64 (2 * (H : Int)) = 2 * (H : Int) := by unfold wrap64; omega
  clear hfew hlens
  go_wp2_with fail
  refine (cnew H _ hH1 hH2).mono ?_
  rintro e w3 ⟨db, rfl, h3⟩
  have H3 := Lib.hid h3
  clear h3
  go_wp2_with fail
  refine (copen0 H H3.out hH1 hH2).mono ?_
  rintro e w4 ⟨lb, rfl, h4⟩
  have H4 := Lib.hid h4
  clear h4 H3
  go_wp2_with fail
  have H5 := Lib.hid (H4.out.ref0 (M := cL0 H) rfl)
  have C5 := Lib.hid (Calm.fresh (2 * H) 0 H 4294967296 hH1 (by omega) (by omega) (by omega))
  clear H4
  change Code.wp _ _ _ _ (w4.alloc (.cells (rlogCells (.slice none 0 0) (cL0 H)) 72))
  generalize w4.alloc (.cells (rlogCells (.slice none 0 0) (cL0 H)) 72) = w5 at H5 ⊢
  generalize w4.heap.size = rb at H5 ⊢
  go_loopw [7, 9, 47] (fun lv rv iv wr => ∃ (k lb rb : Nat) (L : LSt) (d : DSt), iv = .int .i64 (k : Int) ∧ lv = .pointer (some ⟨lb, 0, none⟩) ∧ rv = .pointer (some ⟨rb, 0, none⟩) ∧ k ≤ n ∧ L.base = 0 ∧ L.half = H ∧ L.stamp ≤ (k + 1) * 4294967296 + k ∧ Hid (Duo (TR rb L) w2 wr lb db L d) ∧ Hid (Calm L d k)) (fun _ _ i _ => match i with | .int _ k => n - k.toNat | _ => 0)
  case atStart => exact ⟨0, lb, rb, cL0 H, _, rfl, rfl, rfl, Nat.zero_le _, rfl, rfl, by show 4294967296 ≤ _; omega, H5, C5⟩
  case round =>
    obtain ⟨k, lb, rb, L, d, rfl, rfl, rfl, hk, hLb, hLh, hLs, HD, HC⟩ := hrel
    by_cases hlt : k < n
    · obtain ⟨g, off, rfl⟩ := HX.out.form hlt
      have hc := HX.out.later (HB2.out.trans (HD.out.below.mono HB2.out.size)) hlt
      have hok := HX.out.ok hlt
      have hlen := HLEN.out k hlt
      generalize x k = oi at hc hok hlen
      obtain ⟨or_, oa, oc, ob⟩ := oi
      obtain ⟨r, rfl⟩ : ∃ r : List UInt8, or_ = ⟨r.toArray⟩ := ⟨or_.data.toList, by simp⟩
      obtain ⟨a, rfl⟩ : ∃ a : List UInt8, oa = ⟨a.toArray⟩ := ⟨oa.data.toList, by simp⟩
      have hrl : r.length ≤ 1000000 := by have := hlen.1; simp [ByteArray.size] at this; omega
      have hal : a.length ≤ 1000000 := by have := hlen.2; simp [ByteArray.size] at this; omega
      have HCL : Hid (∀ j v, [Value.string ⟨r.toArray⟩, .string ⟨a.toArray⟩, .int .i64 oc, .int .u64 ob][j]? = some v → wr.cell? ⟨g, off + k * 4 + j, none⟩ = some v) := Lib.hid hc
      have HOK := Lib.hid hok
      clear hc hok hlen
      go_wp2_with (with_reducible refine wpList_load_cells rfl _ _ rfl g (off + k * 4) (by go_simp) _ [.string ⟨r.toArray⟩, .string ⟨a.toArray⟩, .int .i64 oc, .int .u64 ob] Tryd.underlying76 rfl (by kernel_rfl) HCL.out ?_)
      have HP := Lib.hid (HD.out.block (framedR _ _) ((Below.refl _ _).alloc (Nat.le_refl _) _) (Nat.le_refl _) (heap_alloc_new wr (.cells #[.string ⟨r.toArray⟩, .string ⟨a.toArray⟩, .int .i64 oc, .int .u64 ob] 76)))
      generalize wr.alloc (.cells #[.string ⟨r.toArray⟩, .string ⟨a.toArray⟩, .int .i64 oc, .int .u64 ob] 76) = wa at HP ⊢
      generalize wr.heap.size = bo at HP ⊢
      refine (duo_arm HP.out (framedP (framedR _ _) _ _) oc ob HOK.out.cat.2 HOK.out.cbits.1 HOK.out.cbits.2).mono ?_
      rintro e w6 ⟨rfl, h6⟩
      have H6 := Lib.hid h6
      have A6 := Lib.hid (HC.out.arm HOK.out.cat.2 HOK.out.cbits.1 HOK.out.cbits.2)
      clear h6 HP HD HCL
      have kk := block_cell H6.out.blk
      have k0 : w6.cell? ⟨bo, 0, none⟩ = some (.string ⟨r.toArray⟩) := kk 0
      have k1 : w6.cell? ⟨bo, 1, none⟩ = some (.string ⟨a.toArray⟩) := kk 1
      clear kk
      go_wp2_with fail
      refine (duo_append_any H6.out (framedP (framedR _ _) _ _) A6.out (by omega) (by omega) r a hrl hal).mono ?_
      rintro e w7 ⟨rfl, h7⟩
      have hcase := A6.out.app (by omega) (by omega) r a
      have hxr := L.spec_recs r a
      have hx5 := spec_e L r a
      have hxn := spec_new L r a
      have hrc := HC.out.recs
      have hlh := HC.out.half
      have hle := HC.out.ok.inv.le
      obtain ⟨Y, hY⟩ : ∃ Y, Y = L.app (d.arm oc ob) r a := ⟨_, rfl⟩
      obtain ⟨X, hX⟩ : ∃ X, X = L.spec r a := ⟨_, rfl⟩
      rw [← hY] at h7 hcase ⊢
      rw [← hX] at hcase hxr hx5 hxn
      obtain ⟨ye, yL, yd⟩ := Y
      obtain ⟨xe, xL⟩ := X
      simp only at h7 hcase hxr hx5 hxn ⊢
      have H7 := Lib.hid h7
      have HCASE := Lib.hid hcase
      have HXN := Lib.hid hxn
      have HX2 := Lib.hid hX
      clear h7 hcase hxn hX hY H6 k0 k1 HOK
      go_wp2_with fail
      refine (copyP H7.out (by omega)).mono ?_
      rintro e w8 ⟨cb, rfl, h8⟩
      have H8 := Lib.hid h8
      clear h8 H7
      have kk := block_cell H8.out.blk
      have k0 : w8.cell? ⟨bo, 0, none⟩ = some (.string ⟨r.toArray⟩) := kk 0
      have k1 : w8.cell? ⟨bo, 1, none⟩ = some (.string ⟨a.toArray⟩) := kk 1
      clear kk
      go_wp2_with fail
      have hra := rapp2P H8.out r a hrl hal (by omega) (by omega) (by omega)
      rw [← HX2.out] at hra
      refine hra.mono ?_
      rintro e w9 ⟨_, rfl, h9⟩
      have H9 := Lib.hid h9
      clear h9 H8 hra k0 k1
      simp only at H9 ⊢
      rcases HCASE.out with ⟨hA, hAl⟩ | ⟨hDn, hAll⟩
      · have hye : ye = xe := by have := hA.e; rw [← HX2.out] at this; exact this
        subst hye
        have HA := Lib.hid hA
        have HAL := Lib.hid hAl
        have hb5 : (ye != 5) = true := by rw [bne_iff_ne]; exact hx5
        have hbb : (ye != ye) = false := by simp
        clear hA hAl HCASE
        go_wp2_with fail
        refine (duo_arm H9.out (framedP (framedR2 _ _ _ _) _ _) 0 0 (by decide) (by decide) (by decide)).mono ?_
        rintro e w10 ⟨rfl, h10⟩
        have hlog := HA.out.log
        have hup := HA.out.up
        rw [← HX2.out] at hlog
        simp only at hlog hup
        have hyl : yL.base = 0 ∧ yL.half = H := by rw [hlog]; exact ⟨by show xL.base = 0; omega, by show xL.half = H; omega⟩
        have H10 : Hid (Duo (TR rb yL) w2 w10 lb db yL (yd.arm 0 0)) := Lib.hid (TR.like h10.drop.first (by rw [hlog]) (by rw [hlog]) (by rw [hlog]) (by rw [hlog]) (by rw [hlog]))
        have C10 := Lib.hid HAL.out.calm
        clear h10 hlog H9
        go_wp2_with fail
        refine ⟨⟨k + 1, lb, rb, yL, yd.arm 0 0, rfl, rfl, rfl, by omega, hyl.1, hyl.2, by omega, H10, C10⟩, ?_⟩
        show n - ((k : Int) + 1).toNat < n - (k : Int).toNat
        omega
      · obtain rfl : ye = 5 := hDn.e
        have hx0 : xe = 0 := by have := hDn.spec; rw [← HX2.out] at this; exact this
        subst hx0
        have HXN' := Lib.hid (HXN.out rfl)
        have hinv := hDn.inv
        rw [← HX2.out] at hinv
        simp only at hinv
        have HINV := Lib.hid hinv
        have HALL := Lib.hid hAll
        clear hDn hinv hAll HCASE HXN
        go_wp2_with fail
        refine (duo_start H9.out (framedP (framedR2 _ _ _ _) _ _)).mono ?_
        rintro e w10 ⟨rfl, h10⟩
        have H10 := Lib.hid h10
        clear h10 H9
        have hu1 : IntKind.i64.wrap ((k : Int) + 2) = ((k + 2 : Nat) : Int) := by rw [IntKind.wrap_i64]; omega
        have hu2 : IntKind.u32.wrap ((k : Int) + 2) = ((k + 2 : Nat) : Int) := by rw [IntKind.wrap_u32]; omega
        rcases HINV.out with hi | hi
        · have hcm := HALL.out L (.inl rfl) hi (L.stamp + 1) (Nat.le_refl _)
          have HCM := Lib.hid hcm
          clear hi hcm HINV HALL
          go_wp2_with fail
          refine (duo_reopen H10.out (framedP (framedR2 _ _ _ _) _ _) HCM.out (k + 2) (by omega) (base := 0) (half := H) (by simp only; omega) (by simp only; omega)).mono ?_
          rintro e w11 ⟨mb, rfl, h11⟩
          have H11 := Lib.hid h11.drop
          have C11 := Lib.hid (HCM.out.again ((k + 2) * 4294967296) (by simp only; omega))
          clear h11 H10 HCM
          simp only at H11 C11
          go_wp2_with fail
          refine (duo_gen H11.out).mono ?_
          rintro e w' ⟨rfl, rfl⟩
          go_wp2_with fail
          refine (duo_base H11.out).mono ?_
          rintro e w' ⟨rfl, rfl⟩
          go_wp2_with fail
          refine (duo_records H11.out C11.out (by omega)).mono ?_
          rintro e w12 ⟨v12, rfl, ho12, hb12⟩
          have H12 := Lib.hid (H11.out.later (framedR2 _ _ _ _) hb12)
          have V12 := Lib.hid ho12.at
          clear H11 ho12 hb12
          simp only
          go_wp2_with fail
          refine (duo_rsame H12.out.second _ _ _ _ V12.out).mono ?_
          rintro e w13 ⟨rfl, hb13⟩
          have H13 := Lib.hid (H12.out.later (framedR2 _ _ _ _) hb13)
          clear H12 V12 hb13
          rw [decide_eq_true (⟨rfl, rfl, rfl⟩ : L.gen = L.gen ∧ L.first = L.first ∧ L.recs = L.recs)]
          go_wp2_with fail
          refine (duo_gen H13.out).mono ?_
          rintro e w' ⟨rfl, rfl⟩
          go_wp2_with fail
          refine (duo_base H13.out).mono ?_
          rintro e w' ⟨rfl, rfl⟩
          go_wp2_with fail
          refine (duo_records H13.out C11.out (by omega)).mono ?_
          rintro e w14 ⟨v14, rfl, ho14, hb14⟩
          have H14 := Lib.hid (H13.out.later (framedR2 _ _ _ _) hb14)
          have V14 := Lib.hid ho14.at
          clear H13 ho14 hb14
          simp only
          go_wp2_with fail
          refine (duo_rsame H14.out.second _ _ _ _ V14.out).mono ?_
          rintro e w15 ⟨rfl, hb15⟩
          have H15 := Lib.hid (H14.out.later (framedR2 _ _ _ _) hb15)
          clear H14 V14 hb15
          rw [decide_eq_true (⟨rfl, rfl, rfl⟩ : L.gen = L.gen ∧ L.first = L.first ∧ L.recs = L.recs)]
          go_wp2_with fail
          refine ⟨⟨k + 1, mb, cb, _, yd.start, rfl, rfl, rfl, by omega, ?_, ?_, ?_, Lib.hid (TR.like H15.out.second rfl rfl rfl rfl rfl), C11⟩, ?_⟩
          · simp only; omega
          · simp only; omega
          · simp only; omega
          · show n - ((k : Int) + 1).toNat < n - (k : Int).toNat
            omega
        · have hcm := HALL.out xL (.inr rfl) hi (L.stamp + 1) (Nat.le_refl _)
          have HCM := Lib.hid hcm
          clear hi hcm HINV HALL
          go_wp2_with fail
          refine (duo_reopen H10.out (framedP (framedR2 _ _ _ _) _ _) HCM.out (k + 2) (by omega) (base := 0) (half := H) (by simp only; omega) (by simp only; omega)).mono ?_
          rintro e w11 ⟨mb, rfl, h11⟩
          have H11 := Lib.hid h11.drop
          have C11 := Lib.hid (HCM.out.again ((k + 2) * 4294967296) (by simp only; omega))
          clear h11 H10 HCM
          simp only at H11 C11
          go_wp2_with fail
          refine (duo_gen H11.out).mono ?_
          rintro e w' ⟨rfl, rfl⟩
          go_wp2_with fail
          refine (duo_base H11.out).mono ?_
          rintro e w' ⟨rfl, rfl⟩
          go_wp2_with fail
          refine (duo_records H11.out C11.out (by omega)).mono ?_
          rintro e w12 ⟨v12, rfl, ho12, hb12⟩
          have H12 := Lib.hid (H11.out.later (framedR2 _ _ _ _) hb12)
          have V12 := Lib.hid ho12.at
          clear H11 ho12 hb12
          simp only
          go_wp2_with fail
          refine (duo_rsame H12.out.second _ _ _ _ V12.out).mono ?_
          rintro e w13 ⟨rfl, hb13⟩
          have H13 := Lib.hid (H12.out.later (framedR2 _ _ _ _) hb13)
          clear H12 V12 hb13
          rw [decide_eq_false (fun e => HXN'.out e)]
          go_wp2_with fail
          refine (duo_gen H13.out).mono ?_
          rintro e w' ⟨rfl, rfl⟩
          go_wp2_with fail
          refine (duo_base H13.out).mono ?_
          rintro e w' ⟨rfl, rfl⟩
          go_wp2_with fail
          refine (duo_records H13.out C11.out (by omega)).mono ?_
          rintro e w14 ⟨v14, rfl, ho14, hb14⟩
          have H14 := Lib.hid (H13.out.later (framedR2 _ _ _ _) hb14)
          have V14 := Lib.hid ho14.at
          clear H13 ho14 hb14
          simp only
          go_wp2_with fail
          refine (duo_rsame H14.out.first _ _ _ _ V14.out).mono ?_
          rintro e w15 ⟨rfl, hb15⟩
          have H15 := Lib.hid (H14.out.later (framedR2 _ _ _ _) hb15)
          clear H14 V14 hb15
          rw [decide_eq_true (⟨rfl, rfl, rfl⟩ : xL.gen = xL.gen ∧ xL.first = xL.first ∧ xL.recs = xL.recs)]
          go_wp2_with fail
          refine ⟨⟨k + 1, mb, rb, _, yd.start, rfl, rfl, rfl, by omega, ?_, ?_, ?_, Lib.hid (TR.like H15.out.first rfl rfl rfl rfl rfl), C11⟩, ?_⟩
          · simp only; omega
          · simp only; omega
          · simp only; omega
          · show n - ((k : Int) + 1).toNat < n - (k : Int).toNat
            omega
    · obtain rfl : k = n := by omega
      go_wp2_with fail
      go_ret
      exact ⟨rfl, HB2.out.trans (HD.out.below.mono HB2.out.size)⟩
end Go.Proofs.YtbdhicjebeoakaaDoor
