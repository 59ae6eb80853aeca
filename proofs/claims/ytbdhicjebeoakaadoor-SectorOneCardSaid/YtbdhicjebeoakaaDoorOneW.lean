/- lockagelaw04.SectorOne: the walk. -/
import Derived.Test.YtbdhicjebeoakaaDoorTornW
import Derived.Lib.ConvBytes
set_option linter.unusedVariables false
set_option linter.unusedSimpArgs false
namespace Go.Proofs.YtbdhicjebeoakaaDoor
open Go.RowKit

theorem one_bit (c : Int) : ∃ n : Nat, wrap64 ((IntKind.u64.wrap c).tmod 128) = (n : Int) ∧ n < 128 := by
  have h : 0 ≤ IntKind.u64.wrap c := by simp [IntKind.wrap, IntKind.bits, IntKind.signed]; omega
  rw [Int.tmod_eq_emod_of_nonneg h]
  refine ⟨(IntKind.u64.wrap c % 128).toNat, ?_, by omega⟩
  unfold wrap64
  omega
theorem xor_all : ∀ k : Fin 8, ∀ n : Fin 256, Go.bits BinOp.xor IntKind.u8 ((n.val : Nat) : Int) (IntKind.u8.wrap (2 ^ k.val)) = (((n.val ^^^ 2 ^ k.val) : Nat) : Int) ∧ n.val ^^^ 2 ^ k.val ≠ n.val ∧ n.val ^^^ 2 ^ k.val < 256 := by decide +kernel
theorem xor_byte (c : UInt8) (k : Nat) (hk : k < 8) : ∃ d : UInt8, Go.bits BinOp.xor IntKind.u8 (c.toNat : Int) (IntKind.u8.wrap (2 ^ k)) = (d.toNat : Int) ∧ d ≠ c := by
  obtain ⟨h1, h2, h3⟩ := xor_all ⟨k, hk⟩ ⟨c.toNat, c.toNat_lt⟩
  simp only at h1 h2 h3
  refine ⟨UInt8.ofNat (c.toNat ^^^ 2 ^ k), ?_, fun e => h2 ?_⟩
  · rw [h1, UInt8.toNat_ofNat', Nat.mod_eq_of_lt h3]
  · have := congrArg UInt8.toNat e
    rwa [UInt8.toNat_ofNat', Nat.mod_eq_of_lt h3] at this
theorem conv_row (x : List UInt8) (w : World) (h : (⟨x.toArray⟩ : ByteArray).size = 64) :
    ∃ (cap : Nat) (W : World), (convert 9 52 (.string ⟨x.toArray⟩)).run Tryd.prog w = .ok (.slice (some ⟨w.heap.size, 0, none⟩) 64 cap) W ∧
      (∀ j, j < 64 → W.cell? ⟨w.heap.size, j, none⟩ = some (.int .u8 ((x.getD j 0).toNat : Int))) ∧ (∀ j, j < 64 → W.frozen? ⟨w.heap.size, j, none⟩ = false) ∧ Below w.heap.size w W := by
  have hrun := Lib.run_convert_string_bytes (P := Tryd.prog) w 9 52 5 ⟨x.toArray⟩ Tryd.underlying9 Tryd.underlying52 Tryd.underlying5
  rw [h] at hrun
  refine ⟨_, _, hrun, fun j hj => ?_, fun j hj => ?_, ?_⟩
  · have := Lib.bytesWorld_cell w 5 ⟨x.toArray⟩ j (by rw [h]; exact hj)
    simpa using this
  · have hn := Lib.bytesWorld_at_new w 5 ⟨x.toArray⟩
    have hs : 64 ≤ (Lib.bytesCells w 5 ⟨x.toArray⟩).size := by
      unfold Lib.bytesCells
      rw [Array.size_append]
      have : (Array.map (fun b : UInt8 => Value.int .u8 (b.toNat : Int)) (⟨x.toArray⟩ : ByteArray).data).size = 64 := by
        rw [Array.size_map]; exact h
      omega
    unfold World.frozen?
    rw [hn]
    simp
    omega
  · exact ⟨rfl, rfl, rfl, by rw [Lib.bytesWorld_size]; omega, fun k hk => Lib.bytesWorld_at_old w 5 _ k hk⟩
set_option maxRecDepth 100000 in
set_option maxHeartbeats 4000000 in
theorem one_walk (a b : Pc) (bit : Int) (w : World) (ha : a.Ok) (hb : b.Ok) :
    Calls Tryd.prog 6 #[.agg (pcV a), .agg (pcV b), .int .i64 bit] w fun e w' => e = .returned (.bool true) ∧ Below w.heap.size w w' := by
  have hm0 := TwoM.start w a b
  obtain ⟨st, ge, no, ix, to, da⟩ := a
  obtain ⟨st', ge', no', ix', to', da'⟩ := b
  obtain ⟨hst, hda⟩ := ha
  obtain ⟨hst', hda'⟩ := hb
  simp only at hst hda hst' hda'
  simp only [pcV]
  have HAW := fun W => Lib.hid (awake_ok W)
  obtain ⟨n, hn, hn128⟩ := one_bit bit
  have HN := Lib.hid hn
  have HM := Lib.hid hm0
  clear hn hm0
  go_enter Tryd.func6, Tryd.ntmps6
  go_wp2_with fail
  refine (HAW _).out.mono ?_
  rintro e w1 ⟨rfl, hb1⟩
  have HM := Lib.hid (HM.out.on hb1)
  clear hb1

  obtain ⟨k0, k1, k2, k3, k4, k5⟩ := cells6 HM.out.ha
  obtain ⟨j0, j1, j2, j3, j4, j5⟩ := cells6 HM.out.hb
  try dsimp only
  repeat (first | go_values | go_skip | go_guarded | go_step | go_upon)
  clear k0 k1 k2 k3 k4 k5 j0 j1 j2 j3 j4 j5
  refine (like_any ⟨st, ge, no, ix, to, da⟩ _).mono ?_
  rintro e w2 ⟨rfl, hb2⟩
  have HM := Lib.hid (HM.out.on hb2)
  clear hb2
  have hR := rright_any st ge no ix to da w2 hda
  rcases hra : Pc.right ⟨st, ge, no, ix, to, da⟩ with _ | _
  all_goals rw [hra] at hR
  all_goals have HRA := Lib.hid hra
  all_goals clear hra
  case false =>
    simp only [pcV]
    try dsimp only
    repeat (first | go_values | go_skip | go_guarded | go_step | go_upon)
    refine hR.mono ?_
    rintro e w3 ⟨rfl, hb3⟩
    have HM := Lib.hid (HM.out.on hb3)
    clear hb3
    try dsimp only
    repeat (first | go_values | go_skip | go_guarded | go_step | go_upon)
    refine (HAW _).out.mono ?_
    rintro e w9 ⟨rfl, hb9⟩
    have HM := Lib.hid (HM.out.on hb9)
    clear hb9
    try dsimp only
    repeat (first | go_values | go_skip | go_guarded | go_step | go_upon)
    go_ret
    exact ⟨rfl, HM.out.below⟩
  simp only [pcV]
  try dsimp only
  repeat (first | go_values | go_skip | go_guarded | go_step | go_upon)
  refine hR.mono ?_
  rintro e w3 ⟨rfl, hb3⟩
  clear hR
  have HM := Lib.hid (HM.out.on hb3)
  clear hb3
  obtain ⟨k0, k1, k2, k3, k4, k5⟩ := cells6 HM.out.ha
  obtain ⟨j0, j1, j2, j3, j4, j5⟩ := cells6 HM.out.hb
  try dsimp only
  repeat (first | go_values | go_skip | go_guarded | go_step | go_upon)
  clear k0 k1 k2 k3 k4 k5 j0 j1 j2 j3 j4 j5
  refine (like_any ⟨st', ge', no', ix', to', da'⟩ _).mono ?_
  rintro e w4 ⟨rfl, hb4⟩
  have HM := Lib.hid (HM.out.on hb4)
  clear hb4
  have hR := rright_any st' ge' no' ix' to' da' w4 hda'
  rcases hrb : Pc.right ⟨st', ge', no', ix', to', da'⟩ with _ | _
  all_goals rw [hrb] at hR
  all_goals have HRB := Lib.hid hrb
  all_goals clear hrb
  case false =>
    simp only [pcV]
    try dsimp only
    repeat (first | go_values | go_skip | go_guarded | go_step | go_upon)
    refine hR.mono ?_
    rintro e w5 ⟨rfl, hb5⟩
    have HM := Lib.hid (HM.out.on hb5)
    clear hb5
    try dsimp only
    repeat (first | go_values | go_skip | go_guarded | go_step | go_upon)
    refine (HAW _).out.mono ?_
    rintro e w9 ⟨rfl, hb9⟩
    have HM := Lib.hid (HM.out.on hb9)
    clear hb9
    try dsimp only
    repeat (first | go_values | go_skip | go_guarded | go_step | go_upon)
    go_ret
    exact ⟨rfl, HM.out.below⟩
  simp only [pcV]
  try dsimp only
  repeat (first | go_values | go_skip | go_guarded | go_step | go_upon)
  refine hR.mono ?_
  rintro e w5 ⟨rfl, hb5⟩
  clear hR
  have HM := Lib.hid (HM.out.on hb5)
  clear hb5
  obtain ⟨k0, k1, k2, k3, k4, k5⟩ := cells6 HM.out.ha
  obtain ⟨j0, j1, j2, j3, j4, j5⟩ := cells6 HM.out.hb
  try dsimp only
  repeat (first | go_values | go_skip | go_guarded | go_step | go_upon)
  clear k0 k1 k2 k3 k4 k5 j0 j1 j2 j3 j4 j5
  refine (print_any ⟨st, ge, no, ix, to, da⟩ _ HRA.out hst).mono ?_
  rintro e w6 ⟨rfl, hb6⟩
  have HM := Lib.hid (HM.out.on hb6)
  clear hb6
  obtain ⟨k0, k1, k2, k3, k4, k5⟩ := cells6 HM.out.ha
  obtain ⟨j0, j1, j2, j3, j4, j5⟩ := cells6 HM.out.hb
  try dsimp only
  repeat (first | go_values | go_skip | go_guarded | go_step | go_upon)
  clear k0 k1 k2 k3 k4 k5 j0 j1 j2 j3 j4 j5
  refine (print_any ⟨st', ge', no', ix', to', da'⟩ _ HRB.out hst').mono ?_
  rintro e w7 ⟨rfl, hb7⟩
  have HM := Lib.hid (HM.out.on hb7)
  clear hb7
  try dsimp only
  repeat (first | (go_not_at_region 7; first | go_values | go_skip | go_guarded | go_step | go_upon))
  rw [HN.out]
  have h37a : da.length ≤ 37 := by have := (Pc.right_iff _).1 HRA.out; exact this.2.2.2.2.2.2.2.2
  have h37b : da'.length ≤ 37 := by have := (Pc.right_iff _).1 HRB.out; exact this.2.2.2.2.2.2.2.2
  have hla := Pc.print_length ⟨st, ge, no, ix, to, da⟩ h37a
  have hlb := Pc.print_length ⟨st', ge', no', ix', to', da'⟩ h37b
  have htn := fun i c hi hc => turned_none ⟨st, ge, no, ix, to, da⟩ i c h37a hi hc
  have hin : Pc.print ⟨st, ge, no, ix, to, da⟩ = Pc.print ⟨st', ge', no', ix', to', da'⟩ → (⟨st, ge, no, ix, to, da⟩ : Pc) = ⟨st', ge', no', ix', to', da'⟩ := print_inj HRA.out hst HRB.out hst'
  have hin2 : (⟨st, ge, no, ix, to, da⟩ : Pc) = ⟨st', ge', no', ix', to', da'⟩ → Pc.print ⟨st, ge, no, ix, to, da⟩ = Pc.print ⟨st', ge', no', ix', to', da'⟩ := fun h => by rw [h]
  generalize Pc.print ⟨st, ge, no, ix, to, da⟩ = x at hla htn hin hin2 ⊢
  generalize Pc.print ⟨st', ge', no', ix', to', da'⟩ = y at hlb hin hin2 ⊢
  have HTN := Lib.hid htn
  have HIN := Lib.hid hin
  have HIN2 := Lib.hid hin2
  have HLA := Lib.hid hla
  clear htn hin hin2 hla hlb h37a h37b
  obtain ⟨m, hm1, hm2⟩ : ∃ m : Nat, (64 ≤ n → 384 + n = m) ∧ (n < 64 → n = m) := by
    by_cases h : 64 ≤ n
    · exact ⟨_, fun _ => rfl, fun h' => by omega⟩
    · exact ⟨n, fun h' => by omega, fun _ => rfl⟩
  have hm3 : m < 64 ∨ (448 ≤ m ∧ m < 512) := by
    by_cases h : 64 ≤ n
    · have := hm1 h; omega
    · have := hm2 (by omega); omega
  have HM3 := Lib.hid hm3
  have hm4 : m < 512 := by omega
  clear hm3
  by_cases h64 : 64 ≤ n
  case' pos =>
    have hmm := hm1 h64
    have hmi : (384 : Int) + (n : Int) = (m : Int) := by omega
    clear hm1 hm2 hmm
    repeat (first | (go_not_at_region 9; first | go_values | go_skip | go_guarded | go_step | go_upon))
    clear hmi h64
  case' neg =>
    obtain rfl : m = n := (hm2 (by omega)).symm
    clear hm1 hm2
    repeat (first | (go_not_at_region 9; first | go_values | go_skip | go_guarded | go_step | go_upon))
    clear h64
  all_goals
    obtain ⟨i, hi⟩ : ∃ i : Nat, i = m / 8 := ⟨_, rfl⟩
    obtain ⟨k, hk⟩ : ∃ k : Nat, k = m % 8 := ⟨_, rfl⟩
    have hxz : (⟨x.toArray⟩ : ByteArray).size = 64 := by have := HLA.out; simp [ByteArray.size, this]
    obtain ⟨cap, W8, hcv, hcell, hfrz, hB8⟩ := conv_row x w7 hxz
    have hi64 : i < 64 := by omega
    have hil : i < x.length := by rw [HLA.out]; exact hi64
    have hci := hcell i hi64
    have hfi := hfrz i hi64
    obtain ⟨c, hc⟩ : ∃ c : UInt8, x.getD i 0 = c := ⟨_, rfl⟩
    rw [hc] at hci
    have hqd : (m : Int).tdiv 8 = (i : Int) := by rw [Int.tdiv_eq_ediv_of_nonneg (by omega)]; omega
    have hrd : (m : Int).tmod 8 = (k : Int) := by rw [Int.tmod_eq_emod_of_nonneg (by omega)]; omega
    have hqd2 : (m : Int) / 8 = (i : Int) := by omega
    have hrd2 : (m : Int) % 8 = (k : Int) := by omega
    have hk8 : k < 8 := by omega
    have hii : (i : Int) < 64 := by omega
    have hkk : (k : Int) < 8 := by omega
    have hiw : IntKind.i64.wrap (i : Int) = (i : Int) := by simp [IntKind.wrap, IntKind.bits, IntKind.signed]; omega
    have hkw : IntKind.i64.wrap (k : Int) = (k : Int) := by simp [IntKind.wrap, IntKind.bits, IntKind.signed]; omega
    have HI := Lib.hid hi
    have HC := Lib.hid hc
    have HCELL := Lib.hid hcell
    have hgs := HM.out.below.size
    have hgs2 := block_lt HM.out.hb
    have HM := Lib.hid (HM.out.on hB8)
    clear hi hk hc hfrz hcell hB8
    generalize w7.heap.size = g at hgs hgs2 hci hfi HCELL hcv
    repeat (first | (go_not_at_region 10; first | go_values | go_skip | go_guarded | go_step | go_upon))
    have HS : W8.drew.cell? ⟨g, i, none⟩ = some (.int .u8 (c.toNat : Int)) := hci
    refine wp_head_tail 10 [true, true, true, true, true, false, false, false, false, false] (fun W => W.cell? ⟨g, i, none⟩ = some (.int .u8 (c.toNat : Int))) (by kernel_rfl) (by kernel_rfl) (fun _ _ d _ _ h => by cases d <;> exact h) HS ?_
    simp only [List.take_succ_cons, List.take_zero, List.drop_succ_cons, List.drop_zero]
    refine wpHead_take (.slice (some ⟨g, 0, none⟩) 64 cap) rfl (fun W hW => by go_simp) ?_
    try simp only [Act.put, List.setIfInBounds_toArray, List.set_cons_succ, List.set_cons_zero]
    refine wpHead_take (.int .i64 (m : Int)) rfl (fun W hW => by go_simp) ?_
    try simp only [Act.put, List.setIfInBounds_toArray, List.set_cons_succ, List.set_cons_zero]
    refine wpHead_take (.int .i64 (i : Int)) rfl (fun W hW => by go_simp) ?_
    try simp only [Act.put, List.setIfInBounds_toArray, List.set_cons_succ, List.set_cons_zero]
    refine wpHead_take (.pointer (some ⟨g, i, none⟩)) rfl (fun W hW => by go_simp) ?_
    try simp only [Act.put, List.setIfInBounds_toArray, List.set_cons_succ, List.set_cons_zero]
    refine wpHead_take (.int .u8 (c.toNat : Int)) rfl (fun W hW => by go_simp) ?_
    try simp only [Act.put, List.setIfInBounds_toArray, List.set_cons_succ, List.set_cons_zero]

    iterate 3 (refine wpHead_step (fun K hK => ?_) HS; go_simp; refine hK _ _ HS ?_; clear hK K)
    obtain ⟨d, hd, hdc⟩ := xor_byte c k hk8
    refine wpHead_step (fun K hK => ?_) HS
    go_simp
    refine hK _ _ HS ?_
    clear hK K hd
    iterate 1 (refine wpHead_step (fun K hK => ?_) HS; go_simp; refine hK _ _ HS ?_; clear hK K)
    refine wpHead_nil ?_
    repeat (first | (go_not_at_region 11; first | go_values | go_skip | go_guarded | go_step | go_upon))
    have hgl : g < W8.heap.size := World.block_lt_of_cell? _ _ hci
    have hcell9 : ∀ j, j < 64 → (W8.setCell ⟨g, i, none⟩ (.int .u8 (d.toNat : Int))).drew.cell? ⟨g, j, none⟩ = some (.int .u8 (((x.set i d).getD j 0).toNat : Int)) := by
      intro j hj
      show (W8.setCell ⟨g, i, none⟩ (.int .u8 (d.toNat : Int))).cell? ⟨g, j, none⟩ = _
      by_cases hji : j = i
      · subst hji
        rw [World.cell?_setCell_same _ _ _ hci, List.getD_eq_getElem?_getD, List.getElem?_set_self hil]
        rfl
      · rw [World.cell?_setCell_other _ _ _ _ (by intro e; injection e with _ e2; first | exact hji e2 | exact hji e2.symm), List.getD_eq_getElem?_getD, List.getElem?_set_ne (fun e => hji e.symm), ← List.getD_eq_getElem?_getD]
        exact HCELL.out j hj
    have hm9 : TwoM w (W8.setCell ⟨g, i, none⟩ (.int .u8 (d.toNat : Int))).drew ⟨st, ge, no, ix, to, da⟩ ⟨st', ge', no', ix', to', da'⟩ :=
      ⟨(HM.out.below.setCell (p := ⟨g, i, none⟩) hgs _).drew, (Below.heap_setCell _ _ _ _ (by show w.heap.size ≠ g; omega)).trans HM.out.ha, (Below.heap_setCell _ _ _ _ (by show w.heap.size + 1 ≠ g; omega)).trans HM.out.hb⟩
    generalize (W8.setCell ⟨g, i, none⟩ (.int .u8 (d.toNat : Int))).drew = W9 at hcell9 hm9 ⊢
    have HM := Lib.hid hm9
    have hxd := HTN.out i d (by have h1 := HM3.out; have h2 := HI.out; omega) (by have h3 := HC.out; rw [List.getD_eq_getElem?_getD, List.getElem?_eq_getElem hil] at h3; rw [List.getElem?_eq_getElem hil]; intro e; apply hdc; rw [← h3]; exact (Option.some.inj e).symm)
    have hzl : (x.set i d).length = 64 := by rw [List.length_set]; exact HLA.out
    generalize x.set i d = z at hcell9 hxd hzl
    have hcv9 : (convert 52 9 (.slice (some ⟨g, 0, none⟩) 64 cap)).run Tryd.prog W9 = .ok (.string ⟨z.toArray⟩) W9 := by
      have := run_convert_bytes_back (P := Tryd.prog) W9 52 9 5 ⟨g, 0, none⟩ cap z (by kernel_rfl) (by kernel_rfl) (by kernel_rfl) (fun j hj => by
        rw [add_at, Nat.zero_add, hcell9 j (by omega), List.getD_eq_getElem?_getD, List.getElem?_eq_getElem hj]; rfl)
      rwa [hzl] at this
    have HXD := Lib.hid hxd
    have HZL := Lib.hid hzl
    have hz0 : ∀ W, Calls Tryd.prog 17 #[.string ⟨z.toArray⟩] W fun e w' => e = .returned (.tuple #[.agg #[.int .u64 0, .int .i64 0, .int .i64 0, .int .i64 0, .int .i64 0, .string ⟨#[]⟩], .int .i64 3]) ∧ Below W.heap.size W w' := fun W => by
      have := sread_any z W (by rw [HZL.out]; decide)
      rw [HXD.out] at this
      exact this
    have HZ0 := fun W => Lib.hid (hz0 W)
    clear hz0 hcell9 hxd hzl hm9 hci hfi hgl hgs hcv
    repeat (first | go_values | go_skip | go_guarded | go_step | go_upon)
    refine (HZ0 _).out.mono ?_
    rintro e w10 ⟨rfl, hb10⟩
    have HM := Lib.hid (HM.out.on hb10)
    clear hb10
    try dsimp only
    repeat (first | (go_not_at_region 12; first | go_values | go_skip | go_guarded | go_step | go_upon))
    have HM := Lib.hid (HM.out.on ((Below.refl _ _).alloc (Nat.le_refl _) (.cells z6 24)))
    change Code.wp _ _ _ _ (w10.alloc (.cells z6 24))
    generalize w10.alloc (.cells z6 24) = w11 at HM ⊢
    have hxy := sameB x y
    obtain ⟨k0, k1, k2, k3, k4, k5⟩ := cells6 HM.out.ha
    obtain ⟨j0, j1, j2, j3, j4, j5⟩ := cells6 HM.out.hb
    go_wp2_with fail
    all_goals
      go_ret
      refine ⟨ret_bool ?_, HM.out.below⟩
      have h1 := HIN.out
      have h2 := HIN2.out
      simp only [Pc.mk.injEq] at h1 h2
      clear HIN HIN2 k0 k1 k2 k3 k4 k5 j0 j1 j2 j3 j4 j5 HZ0 hcv9 HXD HZL HC HI HCELL HM3 HTN HLA HRA HRB HAW HN
      first
        | rfl
        | (simp only [Bool.not_eq_true', beq_eq_false_iff_ne, ne_eq]; assumption)
        | (exfalso; have h3 := h1 (by assumption); first | exact absurd h3.2.2.2.2.2 (by assumption) | omega)
        | (exfalso; have h3 : ¬ x = y := (by assumption); exact h3 (h2 ⟨by omega, by assumption, by assumption, by assumption, by assumption, by assumption⟩))
end Go.Proofs.YtbdhicjebeoakaaDoor
