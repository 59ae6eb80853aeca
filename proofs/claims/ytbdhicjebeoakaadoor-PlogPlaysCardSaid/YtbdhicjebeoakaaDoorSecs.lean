/- The sectors of both halves, as they are kept (lockagelaw05.sectors). -/
import Derived.Test.YtbdhicjebeoakaaDoorRNext
set_option linter.unusedVariables false
set_option linter.unusedSimpArgs false
namespace Go.Proofs.YtbdhicjebeoakaaDoor
open Go.RowKit

set_option maxRecDepth 20000 in
set_option maxHeartbeats 2000000 in
theorem secs_any {w : World} {G : Nat → Prop} {db : Nat} {d : DSt} (hd : IsDisk w G db d) (base half : Nat) (hfit : base + 2 * half ≤ d.kept.length) :
    Calls Tryd.prog 42 #[.pointer (some ⟨db, 0, none⟩), .int .i64 (base : Int), .int .i64 (half : Int)] w fun e w' => ∃ v, e = .returned v ∧ OwnStrs w.heap.size w' v (halfL d.kept base (2 * half)) ∧ Below w.heap.size w w' := by
  have hmost := hd.wf.most
  have HD := Lib.hid hd
  obtain ⟨K, hK⟩ : ∃ K, K = halfL d.kept base (2 * half) := ⟨_, rfl⟩
  rw [← hK]
  have hKl : K.length = 2 * half := by rw [hK]; exact halfL_length hfit
  have hKg : ∀ k, k < 2 * half → d.keptAt ((base : Int) + (k : Int)) = K.getD k [] := fun k hk => by
    rw [hK, halfL_getD _ _ _ _ hk]
    unfold DSt.keptAt
    rw [if_neg (by omega), show ((base : Int) + (k : Int)).toNat = base + k by omega]
  have HKL := Lib.hid hKl
  have HKG := Lib.hid hKg
  have h2 : IntKind.i64.wrap (2 * (half : Int)) = ((2 * half : Nat) : Int) := by rw [IntKind.wrap_i64]; omega
  obtain ⟨n, hn⟩ : ∃ n, n = 2 * half := ⟨_, rfl⟩
  rw [← hn] at h2 HKL HKG
  have hn2 : base + n ≤ 4096 := by omega
  clear hd hK hKl hKg hfit hn
  go_enter Tryd.func42, Tryd.ntmps42
  go_wp2_with fail
  go_loopw [7, 11] (fun lv iv wr => ∃ k : Nat, iv = .int .i64 (k : Int) ∧ k ≤ n ∧ Hid (Below w.heap.size w wr) ∧ Hid (OwnStrs w.heap.size wr lv (K.take k))) (fun _ i _ => match i with | .int _ k => n - k.toNat | _ => 0)
  case atStart => exact ⟨0, rfl, Nat.zero_le _, Lib.hid (Below.refl _ _), Lib.hid (OwnStrs.nil _ _)⟩
  case round =>
    obtain ⟨k, rfl, hk, HB, HO⟩ := hrel
    by_cases hlt : k < n
    · have hkl : k < K.length := by have := HKL.out; omega
      have t1 : K.take (k + 1) = K.take k ++ [K.getD k []] := by
        rw [List.take_succ_eq_append_getElem hkl, List.getD_eq_getElem?_getD, List.getElem?_eq_getElem hkl]; rfl
      have hkp := HKG.out k hlt
      generalize K.getD k [] = s at t1 hkp
      have HT := Lib.hid t1
      have hkc := fun W h => Lib.hid (kept_any (HD.out.below (w' := W) h) ((base : Int) + (k : Int)))
      rw [hkp] at hkc
      have hsz := HB.out.size
      have htl : (K.take k).length ≤ 1000000000 := by rw [List.length_take]; omega
      clear t1 hkp
      go_wp2_with fail
      refine (hkc _ HB.out).out.mono ?_
      rintro e w' ⟨rfl, rfl⟩
      clear hkc
      dsimp only
      repeat (first | (go_big_may; first | ((with_reducible refine wpList_buildCell rfl 41 9 _ rfl _ ?_ ?_ Tryd.underlying41 (by kernel_rfl) ?_); (· rfl); (· rfl)) | ((with_reducible refine wpList_append_str rfl _ _ rfl w.heap.size u7 (K.take k) s ?_ HO.out ?_ htl hsz ?_); (· rfl); (· rfl); intro v' w3 hown1 hg1; have HOWN1 := Lib.hid hown1; have HG1 := Lib.hid hg1; clear hown1 hg1)) | go_values | go_skip | go_guarded | go_step | go_upon)
      go_round
      case rel =>
        refine ⟨k + 1, rfl, by omega, Lib.hid (HB.out.trans HG1.out), Lib.hid ?_⟩
        rw [HT.out]; exact HOWN1.out
      case measure =>
        show n - ((k : Int) + 1).toNat < n - (k : Int).toNat
        omega
    · obtain rfl : k = n := by omega
      have hw := HO.out
      rw [List.take_of_length_le (by have := HKL.out; omega)] at hw
      have HW := Lib.hid hw
      clear hw
      go_wp2_with fail
      go_ret
      exact ⟨_, rfl, HW.out, HB.out⟩
end Go.Proofs.YtbdhicjebeoakaaDoor
