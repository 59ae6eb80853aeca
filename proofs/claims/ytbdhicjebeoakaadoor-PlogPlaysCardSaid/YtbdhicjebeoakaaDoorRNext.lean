/- The reference's Next (package lockageref04), over a slice of sectors. -/
import Derived.Test.YtbdhicjebeoakaaDoorLogX
set_option linter.unusedVariables false
set_option linter.unusedSimpArgs false
namespace Go.Proofs.YtbdhicjebeoakaaDoor
open Go.RowKit

theorem ba_cat (x y : List UInt8) : (⟨x.toArray⟩ : ByteArray) ++ ⟨y.toArray⟩ = ⟨(x ++ y).toArray⟩ := by
  apply ByteArray.ext
  simp
structure RNextM (w wr : World) (first : Pc) : Prop where
  below : Below w.heap.size w wr
  first : wr.heap[w.heap.size]? = some (.cells (pcV first) 30 (0, 0))
theorem RNextM.on {w wr w' : World} {first : Pc} (h : RNextM w wr first) (hb : Below wr.heap.size wr w') : RNextM w w' first :=
  ⟨h.below.trans (hb.mono h.below.size), (hb.block _ (block_lt h.first)).trans h.first⟩
theorem RNextM.stored {w wr w' : World} {first f : Pc} (h : RNextM w wr first) (hf : Fr (fun k => k = w.heap.size) wr w') (hb : w'.heap[w.heap.size]? = some (.cells (pcV f) 30 (0, 0))) : RNextM w w' f :=
  ⟨h.below.trans (hf.below h.below.size (fun k hk => by subst hk; omega)), hb⟩
set_option maxRecDepth 20000 in
set_option maxHeartbeats 4000000 in
theorem rnext_any {w : World} {vl : Value} {l : List (List UInt8)} (hl : StrsAt w vl l) (hls : ∀ t ∈ l, t.length ≤ 1000000) (en a : Nat) (gen no : Int) (hen : en = l.length) (hen2 : en ≤ 1000000) (ha : a ≤ en) :
    Calls Tryd.prog 63 #[vl, .int .i64 (a : Int), .int .i64 (en : Int), .int .i64 gen, .int .i64 no] w fun e w' => e = .returned (nextV (a : Int) (nextL gen no (l.drop a) 0 [] Pc.zero)) ∧ Below w.heap.size w w' := by
  obtain ⟨R, hR⟩ : ∃ R, R = nextL gen no (l.drop a) 0 [] Pc.zero := ⟨_, rfl⟩
  rw [← hR]
  have HR0 := Lib.hid hR
  obtain ⟨A, cap, rfl, -, hrow⟩ := hl
  have HROW := Lib.hid hrow
  have HLS := Lib.hid hls
  rw [← hen]
  have HEN := Lib.hid hen
  clear hR hrow hls hen
  go_enter Tryd.func63, Tryd.ntmps63
  go_wp2_with fail
  go_loopw [13, 15] (fun sv iv wr => ∃ (k : Nat) (acc : List UInt8) (f : Pc), iv = .int .i64 (k : Int) ∧ sv = .string ⟨acc.toArray⟩ ∧ RNextM w wr f ∧ a + k ≤ en ∧ acc.length ≤ 37 * k ∧ Hid (nextL gen no (l.drop (a + k)) k acc f = R)) (fun _ i _ => match i with | .int _ k => en - k.toNat | _ => 0)
  case atStart =>
    exact ⟨0, [], Pc.zero, rfl, rfl, ⟨(Below.refl _ _).alloc (Nat.le_refl _) _, heap_alloc_new w (.cells (pcV Pc.zero) 30)⟩, ha, Nat.zero_le _, Lib.hid HR0.out.symm⟩
  case round =>
    obtain ⟨k, acc, f, rfl, rfl, hm, hk, hacc, hn⟩ := hrel
    have HM := Lib.hid hm
    clear hm
    obtain ⟨J, hJ⟩ : ∃ J : Nat, J = a + k := ⟨_, rfl⟩
    have hadd : IntKind.i64.wrap ((a : Int) + (k : Int)) = (J : Int) := by rw [IntKind.wrap_i64]; omega
    have HJ := Lib.hid hJ
    by_cases hlt : a + k < en
    · have hJe : J < en := by omega
      have hkl : J < l.length := by have := HEN.out; omega
      have e1 : l[J]? = some l[J] := List.getElem?_eq_getElem hkl
      have hd : l.drop (a + k) = l[J] :: l.drop (a + k + 1) := by
        rw [← hJ]; exact List.drop_eq_getElem_cons hkl
      have hsl := HLS.out l[J] (List.getElem_mem hkl)
      generalize l[J] = s at e1 hd hsl
      obtain ⟨g, o, rfl, hc⟩ := HROW.out J s e1
      have hc2 : wr.cell? ⟨g, o + J, none⟩ = some (.string ⟨s.toArray⟩) := (HM.out.below.cell (p := ⟨g, o + J, none⟩) (World.block_lt_of_cell? _ _ hc)).trans hc
      have HD := Lib.hid hd
      have HLT := Lib.hid hlt
      clear hc e1 hd hJ hlt
      go_wp2_with fail
      refine (rread_any s _ (by omega)).mono ?_
      rintro e w2 ⟨rfl, hb2⟩
      have HM := Lib.hid (HM.out.on hb2)
      clear hb2 hc2
      rcases hr : readR s with _ | p
      · have hRR : R = none := by rw [← hn.out, HD.out]; exact nextL_none hr
        subst hRR
        clear hr
        simp only [Option.getD_none, Option.isSome_none, Bool.false_eq_true, if_false, pcV, Pc.zero]
        go_upto_region 8 with (fail)
        have hm3 := HM.out.on ((Below.refl _ _).alloc (Nat.le_refl _) (.cells #[.int .u64 ((0 : Nat) : Int), .int .i64 0, .int .i64 0, .int .i64 0, .int .i64 0, .string ⟨([] : List UInt8).toArray⟩] 30))
        have hpb := heap_alloc_new w2 (.cells #[.int .u64 ((0 : Nat) : Int), .int .i64 0, .int .i64 0, .int .i64 0, .int .i64 0, .string ⟨([] : List UInt8).toArray⟩] 30)
        generalize (w2.alloc (.cells #[.int .u64 0, .int .i64 0, .int .i64 0, .int .i64 0, .int .i64 0, .string ⟨#[]⟩] 30)) = W3 at hpb hm3 ⊢
        clear HM
        generalize w2.heap.size = pb at hpb ⊢
        have HM := Lib.hid hm3
        have kk := block_cell hpb
        clear hm3 hpb
        have k0 : W3.cell? ⟨pb, 0, none⟩ = some (.int .u64 0) := kk 0
        have k1 : W3.cell? ⟨pb, 1, none⟩ = some (.int .i64 0) := kk 1
        have k2 : W3.cell? ⟨pb, 2, none⟩ = some (.int .i64 0) := kk 2
        have k3 : W3.cell? ⟨pb, 3, none⟩ = some (.int .i64 0) := kk 3
        have k4 : W3.cell? ⟨pb, 4, none⟩ = some (.int .i64 0) := kk 4
        have k5 : W3.cell? ⟨pb, 5, none⟩ = some (.string ⟨#[]⟩) := kk 5
        clear kk
        rcases Nat.eq_zero_or_pos k with hk0 | hk0
        · have hk1 : (((k : Nat) : Int) == 0) = true := by rw [beq_iff_eq]; omega
          clear hk0
          go_upto_region 9 with (fail)
          repeat (first | (go_big_may; (with_reducible refine wpList_store_rpc rfl _ _ rfl w.heap.size #[.int .u64 0, .int .i64 0, .int .i64 0, .int .i64 0, .int .i64 0, .string ⟨#[]⟩] (pcV f) ?_ ?_ HM.out.first rfl rfl z6_one ?_); (· rfl); (· rfl); intro w5 hq hf; have HQ := Lib.hid hq; have HF5 := Lib.hid hf; clear hq hf) | (go_not_at_region 10; first | go_values | go_skip | go_guarded | go_step | go_upon))
          try simp only [Act.put]
          have HM := Lib.hid (HM.out.stored (f := Pc.zero) HF5.out HQ.out)
          clear k0 k1 k2 k3 k4 k5 HQ HF5
          go_wp2
          go_ret3
          exact ⟨rfl, HM.out.below⟩
        · have hk1 : (((k : Nat) : Int) == 0) = false := by rw [beq_eq_false_iff_ne]; omega
          go_wp2
          go_ret3
          exact ⟨rfl, HM.out.below⟩
      · have hp := readR_some hr
        have hpr := (Pc.right_iff p).1 hp.1
        obtain ⟨st, ge, nn, ix, to, da⟩ := p
        simp only at hpr
        have HP := Lib.hid hpr
        have HR := Lib.hid hr
        clear hp hr hpr
        simp only [Option.getD_some, Option.isSome_some, if_true, pcV]
        go_upto_region 8 with (fail)
        have hpb := heap_alloc_new w2 (.cells #[.int .u64 (st : Int), .int .i64 ge, .int .i64 nn, .int .i64 ix, .int .i64 to, .string ⟨da.toArray⟩] 30)
        have hm3 := HM.out.on ((Below.refl _ _).alloc (Nat.le_refl _) (.cells #[.int .u64 (st : Int), .int .i64 ge, .int .i64 nn, .int .i64 ix, .int .i64 to, .string ⟨da.toArray⟩] 30))
        have hpn := block_lt HM.out.first
        generalize (w2.alloc (.cells #[.int .u64 (st : Int), .int .i64 ge, .int .i64 nn, .int .i64 ix, .int .i64 to, .string ⟨da.toArray⟩] 30)) = W3 at hpb hm3 ⊢
        clear HM
        generalize w2.heap.size = pb at hpb hpn ⊢
        have HM := Lib.hid hm3
        have HPB := Lib.hid hpb
        clear hm3 hpb w2
        rcases Nat.eq_zero_or_pos k with hk0 | hk0
        case' inl =>
          have hk1 : (((k : Nat) : Int) == 0) = true := by rw [beq_iff_eq]; omega
          have HK0 := Lib.hid hk0
          clear hk0
          go_upto_region 9 with (fail)
          have kk := block_cell HPB.out
          have k0 : W3.cell? ⟨pb, 0, none⟩ = some (.int .u64 (st : Int)) := kk 0
          have k1 : W3.cell? ⟨pb, 1, none⟩ = some (.int .i64 ge) := kk 1
          have k2 : W3.cell? ⟨pb, 2, none⟩ = some (.int .i64 nn) := kk 2
          have k3 : W3.cell? ⟨pb, 3, none⟩ = some (.int .i64 ix) := kk 3
          have k4 : W3.cell? ⟨pb, 4, none⟩ = some (.int .i64 to) := kk 4
          have k5 : W3.cell? ⟨pb, 5, none⟩ = some (.string ⟨da.toArray⟩) := kk 5
          clear kk
          repeat (first | (go_big_may; (with_reducible refine wpList_store_rpc rfl _ _ rfl w.heap.size #[.int .u64 (st : Int), .int .i64 ge, .int .i64 nn, .int .i64 ix, .int .i64 to, .string ⟨da.toArray⟩] (pcV f) ?_ ?_ HM.out.first rfl rfl ?_ ?_); (· rfl); (· rfl); (· exact pc_one' st ge nn ix to da); intro w5 hq hf; have HQ := Lib.hid hq; have HF5 := Lib.hid hf; clear hq hf) | (go_not_at_region 10; first | go_values | go_skip | go_guarded | go_step | go_upon))
          try simp only [Act.put]
          have HM := Lib.hid (HM.out.stored (f := ⟨st, ge, nn, ix, to, da⟩) HF5.out HQ.out)
          have HPB := Lib.hid ((HF5.out.block pb (block_lt HPB.out) (by omega)).trans HPB.out)
          obtain ⟨f2, hf⟩ : ∃ f2 : Pc, f2 = ⟨st, ge, nn, ix, to, da⟩ := ⟨_, rfl⟩
          have HM : Hid (RNextM w w5 f2) := Lib.hid (by rw [hf]; exact HM.out)
          have HFK : Hid (f2 = if k = 0 then (⟨st, ge, nn, ix, to, da⟩ : Pc) else f) := Lib.hid (by rw [hf]; exact (if_pos HK0.out).symm)
          clear k0 k1 k2 k3 k4 k5 HQ HF5 hf
        case' inr =>
          have hk1 : (((k : Nat) : Int) == 0) = false := by rw [beq_eq_false_iff_ne]; omega
          go_upto_region 10 with (fail)
          obtain ⟨w5, hw5⟩ : ∃ w5, w5 = W3 := ⟨_, rfl⟩
          subst hw5
          obtain ⟨f2, hf⟩ : ∃ f2, f2 = f := ⟨_, rfl⟩
          have HM : Hid (RNextM w w5 f2) := Lib.hid (by rw [hf]; exact HM.out)
          have HFK : Hid (f2 = if k = 0 then (⟨st, ge, nn, ix, to, da⟩ : Pc) else f) := Lib.hid (by rw [hf]; exact (if_neg (by omega)).symm)
          clear hf
        all_goals
          have kk := block_cell HPB.out
          have k0 : w5.cell? ⟨pb, 0, none⟩ = some (.int .u64 (st : Int)) := kk 0
          have k1 : w5.cell? ⟨pb, 1, none⟩ = some (.int .i64 ge) := kk 1
          have k2 : w5.cell? ⟨pb, 2, none⟩ = some (.int .i64 nn) := kk 2
          have k3 : w5.cell? ⟨pb, 3, none⟩ = some (.int .i64 ix) := kk 3
          have k4 : w5.cell? ⟨pb, 4, none⟩ = some (.int .i64 to) := kk 4
          have k5 : w5.cell? ⟨pb, 5, none⟩ = some (.string ⟨da.toArray⟩) := kk 5
          have ff := block_cell HM.out.first
          obtain ⟨fst, fge, fnn, fix, fto, fda⟩ := f2
          have q0 : w5.cell? ⟨w.heap.size, 0, none⟩ = some (.int .u64 (fst : Int)) := ff 0
          have q4 : w5.cell? ⟨w.heap.size, 4, none⟩ = some (.int .i64 fto) := ff 4
          clear kk ff
          have hpo := HP.out
          obtain ⟨-, -, -, -, hto1, hto2, hix1, hix2, hdl⟩ := hpo
          by_cases hg : ge = gen
          case neg =>
            have hgb : (ge != gen) = true := by rw [bne_iff_ne]; exact hg
            have hRR : R = none := by rw [← hn.out, HD.out]; exact nextL_bad HR.out (fun hh => hg hh.1)
            clear hg
            subst hRR
            go_wp2
            go_ret3
            exact ⟨rfl, HM.out.below⟩
          subst hg
          have hb1 : (ge != ge) = false := by simp
          by_cases hg : nn = no
          case neg =>
            have hgb : (nn != no) = true := by rw [bne_iff_ne]; exact hg
            have hRR : R = none := by rw [← hn.out, HD.out]; exact nextL_bad HR.out (fun hh => hg hh.2.1)
            clear hg
            subst hRR
            go_wp2
            go_ret3
            exact ⟨rfl, HM.out.below⟩
          subst hg
          have hb2 : (nn != nn) = false := by simp
          by_cases hg : ix = (k : Int)
          case neg =>
            have hgb : (ix != (k : Int)) = true := by rw [bne_iff_ne]; exact hg
            have hRR : R = none := by rw [← hn.out, HD.out]; exact nextL_bad HR.out (fun hh => by have h2 := hh.2.2; rw [← HFK.out] at h2; have h3 := (partB_iff _ _ _).1 h2; simp only at h3; exact hg h3.2.1)
            clear hg
            subst hRR
            go_wp2
            go_ret3
            exact ⟨rfl, HM.out.below⟩
          subst hg
          have hb3 : (((k : Nat) : Int) != (k : Int)) = false := by simp
          by_cases hg : st = fst
          case neg =>
            have hgb : ((st : Int) != (fst : Int)) = true := by rw [bne_iff_ne]; omega
            have hgc : (st != fst) = true := by rw [bne_iff_ne]; exact hg
            have hRR : R = none := by rw [← hn.out, HD.out]; exact nextL_bad HR.out (fun hh => by have h2 := hh.2.2; rw [← HFK.out] at h2; have h3 := (partB_iff _ _ _).1 h2; simp only at h3; exact hg h3.2.2.1)
            clear hg
            subst hRR
            go_wp2
            go_ret3
            exact ⟨rfl, HM.out.below⟩
          subst hg
          have hb4 : ((st : Int) != (st : Int)) = false := by simp
          by_cases hg : to = fto
          case neg =>
            have hgb : (to != fto) = true := by rw [bne_iff_ne]; exact hg
            have hRR : R = none := by rw [← hn.out, HD.out]; exact nextL_bad HR.out (fun hh => by have h2 := hh.2.2; rw [← HFK.out] at h2; have h3 := (partB_iff _ _ _).1 h2; simp only at h3; exact hg h3.2.2.2)
            clear hg
            subst hRR
            go_wp2
            go_ret3
            exact ⟨rfl, HM.out.below⟩
          subst hg
          have hb5 : (to != to) = false := by simp
          have hsz : (⟨da.toArray⟩ : ByteArray).size = da.length := by simp [ByteArray.size]
          by_cases hg : ¬ ((k : Int) < to - 1 ∧ da.length ≠ 37)
          case neg =>
            have hg2 : (k : Int) < to - 1 ∧ da.length ≠ 37 := Classical.not_not.1 hg
            have hgb : decide ((k : Int) < to - 1) = true := decide_eq_true hg2.1
            have hgc : ((da.length : Int) != 37) = true := by rw [bne_iff_ne]; have := hg2.2; omega
            have hRR : R = none := by rw [← hn.out, HD.out]; exact nextL_bad HR.out (fun hh => by have h2 := hh.2.2; rw [← HFK.out] at h2; have h3 := (partB_iff _ _ _).1 h2; simp only at h3; exact (by rcases h3.1 with h4 | h4; (· omega); (· omega)))
            clear hg hg2
            subst hRR
            go_wp2
            go_ret3
            exact ⟨rfl, HM.out.below⟩
          by_cases hg8 : ¬ (0 < k ∧ da.length = 0)
          case neg =>
            have hg2 : 0 < k ∧ da.length = 0 := Classical.not_not.1 hg8
            have hgb : decide (0 < k) = true := decide_eq_true hg2.1
            have hgc : ((da.length : Int) == 0) = true := by rw [beq_iff_eq]; have := hg2.2; omega
            have hgd : ((da.length : Int) != 37) = true := by rw [bne_iff_ne]; have := hg2.2; omega
            have hge : decide ((k : Int) < to - 1) = false := decide_eq_false (fun h => hg ⟨h, by have := hg2.2; omega⟩)
            have hRR : R = none := by rw [← hn.out, HD.out]; exact nextL_bad HR.out (fun hh => by have h2 := hh.2.2; rw [← HFK.out] at h2; have h3 := (partB_iff _ _ _).1 h2; simp only at h3; exact (by rcases h3.1 with h4 | h4; (· rcases h4.2 with h5 | h5; (· omega); (· exact h5 (List.eq_nil_of_length_eq_zero hg2.2))); (· omega)))
            clear hg8 hg2 hg
            subst hRR
            go_wp2
            go_ret3
            exact ⟨rfl, HM.out.below⟩
          have HPB : Hid (partB ⟨st, ge, nn, (k : Int), to, da⟩ (if k = 0 then (⟨st, ge, nn, (k : Int), to, da⟩ : Pc) else f) (k : Int) = true) := Lib.hid (by
            rw [← HFK.out, partB_iff]
            simp only
            refine ⟨?_, trivial, trivial, trivial⟩
            by_cases h1 : (k : Int) < to - 1
            · exact .inr (Classical.byContradiction fun h2 => hg ⟨h1, h2⟩)
            · refine .inl ⟨by omega, ?_⟩
              by_cases h2 : k = 0
              · exact .inl (by omega)
              · exact .inr (fun e => hg8 ⟨by omega, by rw [e]; rfl⟩))
          have HG := Lib.hid hg
          have HG8 := Lib.hid hg8
          have hsum : ¬ 9223372036854775807 < acc.length + da.length := by omega
          have hcat := ba_cat acc da
          clear hg hg8
          by_cases ht : (k : Int) + 1 = to
          · have hRR : R = some (acc ++ da, k + 1) := by rw [← hn.out, HD.out]; exact nextL_end HR.out ⟨rfl, rfl, HPB.out⟩ ht
            have hge : decide ((k : Int) < to - 1) = false := decide_eq_false (by omega)
            have hte : ((k : Int) == to - 1) = true := by rw [beq_iff_eq]; omega
            subst hRR
            clear ht
            rcases Nat.eq_zero_or_pos k with hkz | hkz
            case' inl => first | omega | (have hbk : decide (0 < k) = false := decide_eq_false (by omega); clear hkz)
            case' inr =>
              have hbk : decide (0 < k) = true := decide_eq_true hkz
              have hbl : ((da.length : Int) == 0) = false := by rw [beq_eq_false_iff_ne]; have := HG8.out; omega
              clear hkz
            all_goals
              go_wp2
              go_ret3
              refine ⟨?_, HM.out.below⟩
              have hj := HJ.out
              refine Eq.trans (b := Ending.returned (.tuple #[.string ⟨(acc ++ da).toArray⟩, .int .i64 ((J : Int) + 1), .bool true])) rfl ?_
              rw [show (J : Int) + 1 = (a : Int) + ((k + 1 : Nat) : Int) by omega]
              rfl
          · have hRR : R = nextL ge nn (l.drop (a + k + 1)) (k + 1) (acc ++ da) (if k = 0 then (⟨st, ge, nn, (k : Int), to, da⟩ : Pc) else f) := by
              rw [← hn.out, HD.out]; exact nextL_on HR.out ⟨rfl, rfl, HPB.out⟩ ht
            have HRR := Lib.hid hRR
            have hge : decide ((k : Int) < to - 1) = true := decide_eq_true (by omega)
            have hte : ((k : Int) == to - 1) = false := by rw [beq_eq_false_iff_ne]; omega
            have h37 : da.length = 37 := Classical.byContradiction fun h => HG.out ⟨by omega, h⟩
            have hb7 : ((da.length : Int) != 37) = false := by rw [bne_eq_false_iff_eq]; omega
            have hb8 : ((da.length : Int) == 0) = false := by rw [beq_eq_false_iff_ne]; omega
            clear ht hRR
            rcases Nat.eq_zero_or_pos k with hkz | hkz
            case' inl => first | omega | (have hbk : decide (0 < k) = false := decide_eq_false (by omega); clear hkz)
            case' inr =>
              have hbk : decide (0 < k) = true := decide_eq_true hkz
              clear hkz
            all_goals
              go_wp2
              refine ⟨⟨k + 1, acc ++ da, _, rfl, rfl, HM.out, by have := HLT.out; omega, by rw [List.length_append]; omega, Lib.hid ?_⟩, ?_⟩
              · rw [HRR.out, ← HFK.out]; rfl
              · show en - ((k : Int) + 1).toNat < en - (k : Int).toNat
                have := HLT.out
                omega
    · have hRR : R = none := by
        rw [← hn.out, List.drop_eq_nil_of_le (by have := HEN.out; omega)]
        exact nextL_nil _ _ _ _ _
      subst hRR
      have hJe : en ≤ J := by omega
      clear hlt hJ
      go_wp2
      go_ret3
      exact ⟨rfl, HM.out.below⟩
end Go.Proofs.YtbdhicjebeoakaaDoor
