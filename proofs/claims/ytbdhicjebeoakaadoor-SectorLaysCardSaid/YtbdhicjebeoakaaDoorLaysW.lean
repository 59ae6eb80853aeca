/- lockagelaw04.SectorLays: the walk. -/
import Derived.Test.YtbdhicjebeoakaaDoorApp
import Derived.Test.YtbdhicjebeoakaaDoorRLay
import Derived.Test.YtbdhicjebeoakaaDoorLayQ
import Derived.Test.YtbdhicjebeoakaaDoorAwk2
set_option linter.unusedVariables false
set_option linter.unusedSimpArgs false
namespace Go.Proofs.YtbdhicjebeoakaaDoor
open Go.RowKit

theorem lays_at (c : Int) : ∃ n : Nat, wrap64 ((IntKind.u64.wrap c).tmod 10) = (n : Int) ∧ n < 10 := by
  have h : 0 ≤ IntKind.u64.wrap c := by simp [IntKind.wrap, IntKind.bits, IntKind.signed]; omega
  rw [Int.tmod_eq_emod_of_nonneg h]
  refine ⟨(IntKind.u64.wrap c % 10).toNat, ?_, by omega⟩
  unfold wrap64
  omega
/-- What the closures hand back. -/
def FL (l : List (List UInt8)) (j : Int) : List UInt8 := l.getD j.toNat []
theorem FL_row (l : List (List UInt8)) (a n : Nat) (h : a + n ≤ l.length) : rowOf (FL l) (a : Int) n = (l.drop a).take n := by
  apply List.ext_getElem?
  intro i
  by_cases hi : i < n
  · have h1 : (rowOf (FL l) (a : Int) n)[i]? = some (FL l ((a : Int) + (i : Int))) := by
      simp [rowOf, hi]
    rw [h1, List.getElem?_take, if_pos hi, List.getElem?_drop, FL, show ((a : Int) + (i : Int)).toNat = a + i by omega, List.getD_eq_getElem?_getD, List.getElem?_eq_getElem (by omega)]
    rfl
  · rw [List.getElem?_eq_none (by simp [rowOf]; omega), List.getElem?_eq_none (by rw [List.length_take]; omega)]
theorem lays_reads (g : Nat) (hg : g = 25 ∨ g = 26 ∨ g = 27) (w : World) (b : Nat) (v : Value) (l : List (List UInt8)) (lo hi : Int) (h0 : 0 ≤ lo) (h1 : hi ≤ l.length)
    (hb : w.cell? ⟨b, 0, none⟩ = some v) (hv : StrsAt w v l) : ReadsAs g #[.pointer (some ⟨b, 0, none⟩)] (FL l) lo hi w := by
  intro W j hj0 hj2 hB
  have hv' := hv.on hB
  have hb' : W.cell? ⟨b, 0, none⟩ = some v := (hB.cell (p := ⟨b, 0, none⟩) (World.block_lt_of_cell? _ _ hb)).trans hb
  obtain ⟨k, rfl⟩ := Int.eq_ofNat_of_zero_le (show 0 ≤ j by omega)
  obtain ⟨A, cap, rfl, hl, hr⟩ := hv'
  have hkl : k < l.length := by omega
  have e1 : l[k]? = some l[k] := List.getElem?_eq_getElem hkl
  obtain ⟨g0, o, rfl, hc⟩ := hr k _ e1
  have e2 : FL l (k : Int) = l[k] := by rw [FL, Int.toNat_natCast, List.getD_eq_getElem?_getD, e1]; rfl
  rw [e2]
  generalize l[k] = x at hc
  clear hb hv hB hr e1 e2 hj0 hj2 h0 h1
  have hkl2 : (k : Int) < (l.length : Int) := by omega
  show Calls _ _ #[.int .i64 (k : Int), .pointer (some ⟨b, 0, none⟩)] W _
  rcases hg with rfl | rfl | rfl
  · go_enter Tryd.func25, Tryd.ntmps25
    go_wp2
    go_ret
    exact ⟨rfl, Below.refl _ _⟩
  · go_enter Tryd.func26, Tryd.ntmps26
    go_wp2
    go_ret
    exact ⟨rfl, Below.refl _ _⟩
  · go_enter Tryd.func27, Tryd.ntmps27
    go_wp2
    go_ret
    exact ⟨rfl, Below.refl _ _⟩
/-- The three questions that the law asks. -/
theorem lays_next (s : List UInt8) (st : Nat) (ge nn : Int) (a : Nat) (more : List (List UInt8)) (hok : layOk s ge nn = true) (hst : st < 18446744073709551616) :
    nextAll (FL (List.replicate a [] ++ layL s st ge nn ++ more)) (a : Int) ((List.replicate a [] ++ layL s st ge nn ++ more).length : Int) ge nn = some (s, countOf s.length) ∧
    nextAll (FL (List.replicate a [] ++ layL s st ge nn ++ more)) (a : Int) ((a : Int) + (countOf s.length : Int) - 1) ge nn = none ∧
    nextAll (FL (List.replicate a [] ++ layL s st ge nn ++ more)) (a : Int) ((List.replicate a [] ++ layL s st ge nn ++ more).length : Int) ge (nn + 1) = none := by
  have hp := countOf_pos s.length
  have hl := layL_length s st ge nn
  have hlen : (List.replicate a ([] : List UInt8) ++ layL s st ge nn ++ more).length = a + countOf s.length + more.length := by simp [hl]; omega
  have hdrop : (List.replicate a ([] : List UInt8) ++ layL s st ge nn ++ more).drop a = layL s st ge nn ++ more := by
    rw [List.append_assoc]
    exact List.drop_left' (by simp)
  have r1 : room (a : Int) ((List.replicate a ([] : List UInt8) ++ layL s st ge nn ++ more).length : Int) = countOf s.length + more.length := by
    unfold room; rw [if_pos (by omega), hlen]; omega
  have r2 : room (a : Int) ((a : Int) + (countOf s.length : Int) - 1) = countOf s.length - 1 := by
    unfold room; rw [if_pos (by omega)]; omega
  have w1 : rowOf (FL (List.replicate a [] ++ layL s st ge nn ++ more)) (a : Int) (countOf s.length + more.length) = layL s st ge nn ++ more := by
    rw [FL_row _ _ _ (by rw [hlen]; omega), hdrop, List.take_of_length_le (by rw [List.length_append, hl]; omega)]
  have w2 : rowOf (FL (List.replicate a [] ++ layL s st ge nn ++ more)) (a : Int) (countOf s.length - 1) = (layL s st ge nn).take (countOf s.length - 1) := by
    rw [FL_row _ _ _ (by rw [hlen]; omega), hdrop, List.take_append_of_le_length (by rw [hl]; omega)]
  unfold nextAll
  rw [r1, r2, w1, w2]
  refine ⟨next_whole hok hst more Pc.zero, ?_, next_other hok hst ge (nn + 1) (.inr (by omega)) more [] Pc.zero⟩
  have := next_short hok hst (countOf s.length - 1) (by omega) (countOf s.length - 1) 0 [] Pc.zero (by omega) (fun h => absurd rfl h)
  rwa [List.drop_zero] at this
structure LaysM (w W : World) (vm : Value) (more : List (List UInt8)) : Prop where
  below : Below w.heap.size w W
  more : StrsAt W vm more
theorem LaysM.on {w W W' : World} {vm : Value} {more : List (List UInt8)} (h : LaysM w W vm more) (hb : Below W.heap.size W W') : LaysM w W' vm more :=
  ⟨h.below.trans (hb.mono h.below.size), h.more.on hb⟩
set_option maxRecDepth 100000 in
set_option maxHeartbeats 4000000 in
theorem lays_walk (s : List UInt8) (st : Nat) (gen no at_ : Int) (vm : Value) (more : List (List UInt8)) (w : World) (hs : s.length ≤ 9223372036854775807) (hst : st < 18446744073709551616) (hm : StrsAt w vm more) (hms : ∀ t ∈ more, t.length ≤ 9223372036854775807) :
    Calls Tryd.prog 5 #[.string ⟨s.toArray⟩, .int .u64 (st : Int), .int .i64 gen, .int .i64 no, .int .i64 at_, vm] w fun e w' => e = .returned (.bool true) ∧ Below w.heap.size w w' := by
  have hm0 : LaysM w w vm more := ⟨Below.refl _ _, hm⟩
  obtain ⟨A, cp, hvm, hml, _⟩ := hm
  have hsz : (⟨s.toArray⟩ : ByteArray).size = s.length := by simp [ByteArray.size]
  obtain ⟨a, hat, ha10⟩ := lays_at at_
  have HAT := Lib.hid hat
  have HAW := fun W => Lib.hid (awake_ok W)
  have HM := Lib.hid hm0
  clear hm0 hat
  subst hvm
  go_enter Tryd.func5, Tryd.ntmps5
  go_wp2_with fail
  rw [HAT.out]
  refine (HAW _).out.mono ?_
  rintro e w1 ⟨rfl, hb1⟩
  have HM := Lib.hid (HM.out.on hb1)
  clear hb1
  by_cases h2 : (2000 : Int) < (s.length : Int)
  case pos =>
    try dsimp only
    repeat (first | go_values | go_skip | go_guarded | go_step | go_upon)
    refine (HAW _).out.mono ?_
    rintro e w2 ⟨rfl, hb2⟩
    have HM := Lib.hid (HM.out.on hb2)
    try dsimp only
    repeat (first | go_values | go_skip | go_guarded | go_step | go_upon)
    go_ret
    exact ⟨rfl, HM.out.below⟩
  by_cases h3 : (50 : Int) < (more.length : Int)
  case pos =>
    try dsimp only
    repeat (first | go_values | go_skip | go_guarded | go_step | go_upon)
    refine (HAW _).out.mono ?_
    rintro e w2 ⟨rfl, hb2⟩
    have HM := Lib.hid (HM.out.on hb2)
    try dsimp only
    repeat (first | go_values | go_skip | go_guarded | go_step | go_upon)
    go_ret
    exact ⟨rfl, HM.out.below⟩
  try dsimp only
  repeat (first | go_values | go_skip | go_guarded | go_step | go_upon)
  have hs2 : s.length ≤ 1000000000 := by omega
  rcases hok : layOk s gen no with _ | _
  case false =>
    refine (lay_bad s st gen no _ hs2 hst hok).mono ?_
    rintro e w2 ⟨rfl, hb2⟩
    have HM := Lib.hid (HM.out.on hb2)
    have hlb := fun W => Lib.hid (rlay_bad s st gen no W hs2 hst hok)
    clear hb2 hok
    try dsimp only
    repeat (first | go_values | go_skip | go_guarded | go_step | go_upon)
    refine (hlb _).out.mono ?_
    rintro e w3 ⟨rfl, hb3⟩
    have HM := Lib.hid (HM.out.on hb3)
    clear hb3 hlb
    try dsimp only
    repeat (first | go_values | go_skip | go_guarded | go_step | go_upon)
    refine (same_any _ _ [] [] _ (StrsAt.nil _) (StrsAt.nil _)).mono ?_
    rintro e w4 ⟨rfl, hb4⟩
    have HM := Lib.hid (HM.out.on hb4)
    clear hb4
    rw [decide_eq_true (rfl : ([] : List (List UInt8)) = [])]
    try dsimp only
    repeat (first | go_values | go_skip | go_guarded | go_step | go_upon)
    refine (count_any _ _ (by omega) (by omega)).mono ?_
    rintro e w' ⟨rfl, rfl⟩
    try dsimp only
    repeat (first | go_values | go_skip | go_guarded | go_step | go_upon)
    refine (rcount_any _ _ (by omega) (by omega)).mono ?_
    rintro e w' ⟨rfl, rfl⟩
    generalize countOf ((s.length : Int)).toNat = cn
    have hcn : ((cn : Int) != (cn : Int)) = false := by simp
    try dsimp only
    repeat (first | go_values | go_skip | go_guarded | go_step | go_upon)
    go_ret
    exact ⟨rfl, HM.out.below⟩
  have hoi := (layOk_iff _ _ _).1 hok
  obtain ⟨ge, rfl⟩ := Int.eq_ofNat_of_zero_le hoi.1
  obtain ⟨nn, rfl⟩ := Int.eq_ofNat_of_zero_le hoi.2.2.1
  have hge : ge < 2147483648 := by omega
  have hnn : nn < 65536 := by omega
  have hcc : countOf s.length < 65536 := hoi.2.2.2.2
  have HOK := Lib.hid hok
  clear hoi hok
  refine (lay_ok s st ge nn _ hs2 hst HOK.out).mono ?_
  rintro e w2 ⟨v, rfl, hown, hb2⟩
  have HM := Lib.hid (HM.out.on hb2)
  have hlb := fun W => Lib.hid (rlay_ok s st ge nn W hs2 hst HOK.out)
  have HV := Lib.hid hown.at
  clear hb2 hown
  try dsimp only
  repeat (first | go_values | go_skip | go_guarded | go_step | go_upon)
  refine (hlb _).out.mono ?_
  rintro e w3 ⟨v2, rfl, hown2, hb3⟩
  have HM := Lib.hid (HM.out.on hb3)
  have HV := Lib.hid (HV.out.on hb3)
  have HV2 := Lib.hid hown2.at
  clear hb3 hlb hown2
  try dsimp only
  repeat (first | go_values | go_skip | go_guarded | go_step | go_upon)
  refine (same_any _ _ _ _ _ HV.out HV2.out).mono ?_
  rintro e w4 ⟨rfl, hb4⟩
  have HM := Lib.hid (HM.out.on hb4)
  have HV := Lib.hid (HV.out.on hb4)
  clear hb4 HV2
  rw [decide_eq_true (rfl : layL s st ge nn = layL s st ge nn)]
  try dsimp only
  repeat (first | go_values | go_skip | go_guarded | go_step | go_upon)
  refine (count_any _ _ (by omega) (by omega)).mono ?_
  rintro e w' ⟨rfl, rfl⟩
  try dsimp only
  repeat (first | go_values | go_skip | go_guarded | go_step | go_upon)
  refine (rcount_any _ _ (by omega) (by omega)).mono ?_
  rintro e w' ⟨rfl, rfl⟩
  generalize countOf ((s.length : Int)).toNat = cn
  have hcn : ((cn : Int) != (cn : Int)) = false := by simp
  try dsimp only
  repeat (first | (go_not_at_region 10; first | go_values | go_skip | go_guarded | go_step | go_upon))
  obtain ⟨A2, c2, rfl, _, _⟩ := id HV.out
  obtain ⟨W5, hmk, hown5, hb5⟩ := make_texts a (by omega) w4
  have HV5 := Lib.hid (HV.out.on hb5)
  have HM5 := Lib.hid (HM.out.on hb5)
  have HO5 := Lib.hid hown5
  have HB5 := Lib.hid hb5
  have hlle : (layL s st ge nn).length ≤ 65536 := by rw [layL_length]; omega
  have hbase := hb5.size
  clear hown5 hb5
  repeat (first | (go_big_may; (with_reducible refine wpList_append_texts rfl _ _ rfl w4.heap.size _ _ (List.replicate a []) (layL s st ge nn) ?_ HO5.out ?_ HV5.out ?_ hbase ?_); (· rfl); (· rfl); (· rw [List.length_replicate]; omega); intro v6 W6 hown6 hb6; have HO6 := Lib.hid hown6; have HB6 := Lib.hid (HB5.out.trans hb6); clear hown6 hb6) | (go_big_may; (with_reducible refine wpList_append_texts rfl _ _ rfl w4.heap.size _ _ (List.replicate a [] ++ layL s st ge nn) more ?_ HO6.out ?_ (HM.out.on HB6.out).more ?_ HB6.out.size ?_); (· rfl); (· rfl); (· rw [List.length_append, List.length_replicate]; omega); intro v7 W7 hown7 hb7; obtain ⟨A7, c7, hv7, _, _⟩ := hown7.at; generalize hm7 : (List.replicate a ([] : List UInt8) ++ layL s st ge nn ++ more).length = m7 at hv7; have HM7 := Lib.hid hm7; clear hm7; subst hv7; have HO7 := Lib.hid hown7; have HB7 := Lib.hid (HB6.out.trans hb7); clear hown7 hb7) | (go_not_at_region 11; first | go_values | go_skip | go_guarded | go_step | go_upon))
  have hbb : Below w4.heap.size w4 (W7.alloc (.cells #[.slice A7 m7 c7] 41)) := HB7.out.alloc HB7.out.size _
  have HM := Lib.hid (HM.out.on hbb)
  have hbx := heap_alloc_new W7 (.cells #[.slice A7 m7 c7] 41)
  have hall := HO7.out.at.on ((Below.refl W7.heap.size W7).alloc (Nat.le_refl _) (.cells #[.slice A7 m7 c7] 41))
  have hnx := lays_next s st ge nn a more HOK.out hst
  have hlens : ∀ t ∈ List.replicate a ([] : List UInt8) ++ layL s st ge nn ++ more, t.length ≤ 9223372036854775807 := by
    intro t ht
    rcases List.mem_append.1 ht with h | h
    · rcases List.mem_append.1 h with h | h
      · rw [(List.mem_replicate.1 h).2]; decide
      · rw [layL] at h
        obtain ⟨i, hi, rfl⟩ := List.mem_map.1 h
        rw [Pc.print_length _ (by have := (Pc.right_iff _).1 (piece_right s st ge nn i (by simpa using hi) HOK.out); exact this.2.2.2.2.2.2.2.2)]
        decide
    · exact hms t h
  have hlenA : (List.replicate a ([] : List UInt8) ++ layL s st ge nn ++ more).length = a + countOf s.length + more.length := by simp [layL_length]; omega
  rw [layL_length] at *
  have hm7 := HM7.out
  clear HO7 HB7 HB5 HO5 HM5 HV5 hbb HM7
  generalize List.replicate a ([] : List UInt8) ++ layL s st ge nn ++ more = all at hall hnx hlens hlenA hbx HM hm7 ⊢
  generalize W7.alloc (.cells #[.slice A7 m7 c7] 41) = W8 at HM hbx hall ⊢
  subst hm7
  generalize W7.heap.size = b17 at hbx ⊢
  have hl2 : all.length ≤ 70000 := by omega
  have hnw : all.length ≤ 9223372036854775807 := by omega
  have eg1 : ∀ args w, (callFunc 25 args).run Tryd.prog w = .ok (.enter 25 args) w := enters_of Tryd.func25 (by kernel_rfl) rfl
  have eg2 : ∀ args w, (callFunc 26 args).run Tryd.prog w = .ok (.enter 26 args) w := enters_of Tryd.func26 (by kernel_rfl) rfl
  have eg3 : ∀ args w, (callFunc 27 args).run Tryd.prog w = .ok (.enter 27 args) w := enters_of Tryd.func27 (by kernel_rfl) rfl
  obtain ⟨n, hn⟩ : ∃ n, n = countOf s.length := ⟨_, rfl⟩
  have hn1 : 1 ≤ n := by rw [hn]; exact countOf_pos _
  rw [← hn] at hnx hlenA hcc ⊢
  clear hn
  have hFl : ∀ j : Int, (FL all j).length ≤ 9223372036854775807 := by
    intro j
    unfold FL
    rw [List.getD_eq_getElem?_getD]
    rcases h : all[j.toNat]? with _ | t
    · decide
    · exact hlens t (List.mem_of_getElem? h)
  have HQ1 : ∀ W, W.heap[b17]? = some (.cells #[.slice A7 all.length c7] 41 (0, 0)) → StrsAt W (.slice A7 all.length c7) all → Hid (Calls Tryd.prog 24 #[.func (.func 25) #[] #[.pointer (some ⟨b17, 0, none⟩)], .int .i64 (a : Int), .int .i64 (all.length : Int), .int .i64 (ge : Int), .int .i64 (nn : Int)] W fun e w' => e = .returned (.tuple #[.string ⟨s.toArray⟩, .int .i64 ((a : Int) + (n : Int)), .bool true]) ∧ Below W.heap.size W w') := fun W h1 h2 => by
    have := next_any _ #[.pointer (some ⟨b17, 0, none⟩)] (FL all) (a : Int) (all.length : Int) ge nn W eg1 (lays_reads _ (.inl rfl) W b17 _ all a all.length (by omega) (by omega) (block_cell h1 0) h2) (fun j _ _ => hFl j) (by omega) (by omega)
    rw [hnx.1] at this
    exact Lib.hid this
  have HQ2 : ∀ W, W.heap[b17]? = some (.cells #[.slice A7 all.length c7] 41 (0, 0)) → StrsAt W (.slice A7 all.length c7) all → Hid (Calls Tryd.prog 24 #[.func (.func 26) #[] #[.pointer (some ⟨b17, 0, none⟩)], .int .i64 (a : Int), .int .i64 ((a : Int) + (n : Int) - 1), .int .i64 (ge : Int), .int .i64 (nn : Int)] W fun e w' => e = .returned (.tuple #[.string ⟨#[]⟩, .int .i64 (a : Int), .bool false]) ∧ Below W.heap.size W w') := fun W h1 h2 => by
    have := next_any _ #[.pointer (some ⟨b17, 0, none⟩)] (FL all) (a : Int) ((a : Int) + (n : Int) - 1) ge nn W eg2 (lays_reads _ (.inr (.inl rfl)) W b17 _ all a _ (by omega) (by omega) (block_cell h1 0) h2) (fun j _ _ => hFl j) (by omega) (by omega)
    rw [hnx.2.1] at this
    exact Lib.hid this
  have HQ3 : ∀ W, W.heap[b17]? = some (.cells #[.slice A7 all.length c7] 41 (0, 0)) → StrsAt W (.slice A7 all.length c7) all → Hid (Calls Tryd.prog 24 #[.func (.func 27) #[] #[.pointer (some ⟨b17, 0, none⟩)], .int .i64 (a : Int), .int .i64 (all.length : Int), .int .i64 (ge : Int), .int .i64 ((nn : Int) + 1)] W fun e w' => e = .returned (.tuple #[.string ⟨#[]⟩, .int .i64 (a : Int), .bool false]) ∧ Below W.heap.size W w') := fun W h1 h2 => by
    have := next_any _ #[.pointer (some ⟨b17, 0, none⟩)] (FL all) (a : Int) (all.length : Int) ge ((nn : Int) + 1) W eg3 (lays_reads _ (.inr (.inr rfl)) W b17 _ all a _ (by omega) (by omega) (block_cell h1 0) h2) (fun j _ _ => hFl j) (by omega) (by omega)
    rw [hnx.2.2] at this
    exact Lib.hid this
  have HBX := Lib.hid hbx
  have HALL := Lib.hid hall
  have Q1 := Lib.hid HQ1
  have Q2 := Lib.hid HQ2
  have Q3 := Lib.hid HQ3
  clear hbx hall hnx hlens HQ1 HQ2 HQ3 hFl hlenA
  have k1 : W8.cell? ⟨b17, 0, none⟩ = some (.slice A7 all.length c7) := block_cell HBX.out 0
  repeat (first | go_values | go_skip | go_guarded | go_step | go_upon)
  refine (Q1.out _ HBX.out HALL.out).out.mono ?_
  rintro e w9 ⟨rfl, hb9⟩
  have HBX := Lib.hid ((hb9.block _ (block_lt HBX.out)).trans HBX.out)
  have HALL := Lib.hid (HALL.out.on hb9)
  have HM := Lib.hid (HM.out.on hb9)
  clear hb9 k1
  have k1 : w9.cell? ⟨b17, 0, none⟩ = some (.slice A7 all.length c7) := block_cell HBX.out 0
  try dsimp only
  repeat (first | go_values | go_skip | go_guarded | go_step | go_upon)
  refine (Q2.out _ HBX.out HALL.out).out.mono ?_
  rintro e w10 ⟨rfl, hb10⟩
  have HBX := Lib.hid ((hb10.block _ (block_lt HBX.out)).trans HBX.out)
  have HALL := Lib.hid (HALL.out.on hb10)
  have HM := Lib.hid (HM.out.on hb10)
  clear hb10 k1
  have k1 : w10.cell? ⟨b17, 0, none⟩ = some (.slice A7 all.length c7) := block_cell HBX.out 0
  try dsimp only
  repeat (first | go_values | go_skip | go_guarded | go_step | go_upon)
  refine (Q3.out _ HBX.out HALL.out).out.mono ?_
  rintro e w11 ⟨rfl, hb11⟩
  have HM := Lib.hid (HM.out.on hb11)
  clear hb11 k1
  have hss : ((⟨s.toArray⟩ : ByteArray).toList == (⟨s.toArray⟩ : ByteArray).toList) = true := beq_self_eq_true _
  have hss2 : (s == s) = true := beq_self_eq_true _
  try dsimp only
  repeat (first | go_values | go_skip | go_guarded | go_step | go_upon)
  go_ret
  exact ⟨rfl, HM.out.below⟩
end Go.Proofs.YtbdhicjebeoakaaDoor
