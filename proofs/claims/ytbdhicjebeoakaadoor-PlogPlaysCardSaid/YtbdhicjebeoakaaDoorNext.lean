/- sector.Next: over a function value that only reads. -/
import Derived.Test.YtbdhicjebeoakaaDoorSec9
import Derived.Test.YtbdhicjebeoakaaDoorBuild
import Derived.Deep.Cut
set_option linter.unusedVariables false
set_option linter.unusedSimpArgs false
namespace Go.Proofs.YtbdhicjebeoakaaDoor
open Go.RowKit

/-- Called at a place of lo .. hi, in every world in which all that lay in w lies unturned, the function value hands back the text F. -/
def ReadsAs (g : Nat) (lb : Array Value) (F : Int → List UInt8) (lo hi : Int) (w : World) : Prop :=
  ∀ (W : World) (j : Int), lo ≤ j → j < hi → Below w.heap.size w W → Calls Tryd.prog g (#[.int .i64 j] ++ lb) W fun e w' => e = .returned (.string ⟨(F j).toArray⟩) ∧ Below W.heap.size W w'
theorem BuilderAtF_below {T e : TypeId} {B b : Nat} {p : Value} {bs : List Value} {W W' : World} (h : Lib.BuilderAtF T e B b p bs W) (hb : Below W.heap.size W W') : Lib.BuilderAtF T e B b p bs W' := by
  have hlt := h.lt
  obtain ⟨hB, v, hv, hown, hne⟩ := h
  exact ⟨hB, v, (hb.block b hlt).trans hv, hown.kept (row := none) ⟨hb.os, hb.tape, hb.output, hb.size, fun k hk _ => hb.block k hk⟩ (by cases v.ownBlock <;> simp), hne⟩
theorem IsBuilderF_below {T e : TypeId} {B b : Nat} {bs : List Value} {W W' : World} (h : Lib.IsBuilderF T e B b bs W) (hb : Below W.heap.size W W') : Lib.IsBuilderF T e B b bs W' :=
  h.elim (fun x => .inl (BuilderAtF_below x hb)) (fun x => .inr (BuilderAtF_below x hb))
theorem pc_one' (v0 : Nat) (v1 v2 v3 v4 : Int) (da : List UInt8) : ∀ v ∈ (#[Value.int .u64 (v0 : Int), .int .i64 v1, .int .i64 v2, .int .i64 v3, .int .i64 v4, .string ⟨da.toArray⟩] : Array Value).toList, v.oneCell' = true := by
  intro v hv
  simp at hv
  rcases hv with rfl | rfl | rfl | rfl | rfl | rfl <;> rfl
def nextV (a : Int) : Option (List UInt8 × Nat) → Value
  | none => .tuple #[.string ⟨#[]⟩, .int .i64 a, .bool false]
  | some r => .tuple #[.string ⟨r.1.toArray⟩, .int .i64 (a + r.2), .bool true]
structure NextM (w wr : World) (acc : List UInt8) (first : Pc) : Prop where
  below : Below w.heap.size w wr
  builder : Lib.IsBuilderF 93 5 w.heap.size w.heap.size (Lib.byteCells acc) wr
  first : wr.heap[w.heap.size + 1]? = some (.cells (pcV first) 24 (0, 0))
theorem NextM.stored {w wr w' : World} {acc : List UInt8} {first f : Pc} (h : NextM w wr acc first) (hf : Fr (fun k => k = w.heap.size + 1) wr w') (hb : w'.heap[w.heap.size + 1]? = some (.cells (pcV f) 24 (0, 0))) : NextM w w' acc f := by
  have key : ∀ p, Lib.BuilderAtF 93 5 w.heap.size w.heap.size p (Lib.byteCells acc) wr → Lib.BuilderAtF 93 5 w.heap.size w.heap.size p (Lib.byteCells acc) w' := by
    intro p hp
    have hlt := hp.lt
    obtain ⟨hB, v, hv, hown, hne⟩ := hp
    have hv2 : v.ownBlock ≠ some (w.heap.size + 1) := Lib.ownBlock_neF hown h.first (by decide)
    exact ⟨hB, v, (hf.block _ hlt (by omega)).trans hv, hown.kept (row := some (w.heap.size + 1)) ⟨hf.os, hf.tape, hf.output, hf.size, fun k hk hne => hf.block k hk (fun e => hne (by rw [e]))⟩ (.inr hv2), hne⟩
  exact ⟨h.below.trans (hf.below h.below.size (fun k hk => by subst hk; omega)), h.builder.elim (fun x => .inl (key _ x)) (fun x => .inr (key _ x)), hb⟩
theorem NextM.wrote {w wr w' : World} {acc da : List UInt8} {f : Pc} (h : NextM w wr acc f) (hA : Lib.BuilderAtF 93 5 w.heap.size w.heap.size (.pointer (some ⟨w.heap.size, 0, none⟩)) (Lib.byteCells acc ++ Lib.strCells ⟨da.toArray⟩) w')
    (hb : Below w.heap.size wr w') (hk : Lib.OthersKept 5 (some w.heap.size) wr w') : NextM w w' (acc ++ da) f := by
  refine ⟨h.below.trans hb, .inr ?_, ?_⟩
  · have e : Lib.byteCells (acc ++ da) = Lib.byteCells acc ++ Lib.strCells ⟨da.toArray⟩ := by simp [Lib.byteCells, Lib.strCells]
    rw [e]
    exact hA
  · exact hk _ _ h.first (by simp) (by intro c fz e; simp at e)
theorem NextM.on {w wr w' : World} {acc : List UInt8} {first : Pc} (h : NextM w wr acc first) (hb : Below wr.heap.size wr w') : NextM w w' acc first :=
  ⟨h.below.trans (hb.mono h.below.size), IsBuilderF_below h.builder hb, (hb.block _ (block_lt h.first)).trans h.first⟩
set_option maxRecDepth 20000 in
set_option maxHeartbeats 4000000 in
theorem next_any (g : Nat) (lb : Array Value) (F : Int → List UInt8) (a en gen no : Int) (w : World) (eg : ∀ args w, (callFunc g args).run Tryd.prog w = .ok (.enter g args) w)
    (hF : ReadsAs g lb F a en w) (hl : ∀ j, a ≤ j → j < en → (F j).length ≤ 9223372036854775807) (he1 : en ≤ 9223372036854775807) (ha : a ≤ 9223372036854775807) :
    Calls Tryd.prog 24 #[.func (.func g) #[] lb, .int .i64 a, .int .i64 en, .int .i64 gen, .int .i64 no] w fun e w' => e = .returned (nextV a (nextAll F a en gen no)) ∧ Below w.heap.size w w' := by
  obtain ⟨R, hR⟩ : ∃ R, R = nextAll F a en gen no := ⟨_, rfl⟩
  rw [← hR]
  have HR0 := Lib.hid hR
  clear hR
  have HF := fun W j h1 h2 hb => Lib.hid (hF W j h1 h2 hb)
  have HL := Lib.hid hl
  clear hF hl
  go_enter Tryd.func24, Tryd.ntmps24
  go_wp2_with fail
  go_loopw [15] (fun i wr => ∃ (k : Nat) (acc : List UInt8) (first : Pc), i = .int .i64 (k : Int) ∧ NextM w wr acc first ∧ Hid (nextL gen no ((rowOf F a (room a en)).drop k) k acc first = R) ∧ acc.length ≤ 37 * k ∧ (k = 0 ∨ ((k : Int) < first.total ∧ first.total < 65536)) ∧ k ≤ room a en) (fun i _ => match i with | .int _ k => room a en - k.toNat | _ => 0)
  case atStart =>
    refine ⟨0, [], Pc.zero, rfl, ⟨((Below.refl _ _).alloc (Nat.le_refl _) _).alloc (by simp) _, .inl ?_, ?_⟩, Lib.hid HR0.out.symm, by simp, .inl rfl, Nat.zero_le _⟩
    · have := (Lib.fresh_isBuilder 93 5 w)
      rcases Lib.IsBuilderF.of this with h | h
      · exact h.alloc _
      · exact absurd h.cell0 (by simp)
    · have := heap_alloc_new (w.alloc (.cells #[.pointer none, .slice none 0 0] 93)) (.cells (pcV Pc.zero) 24)
      rw [World.size_alloc] at this
      exact this
  case round =>
    obtain ⟨k, acc, first, rfl, hm, hn, hacc, hk, hkr⟩ := hrel
    by_cases hlt : k < room a en
    · have h0a : 0 ≤ a := by unfold room at hlt; split at hlt <;> omega
      have hlt2 : a + k < en := by unfold room at hlt; rw [if_pos h0a] at hlt; omega
      have HM := Lib.hid hm
      have HK := Lib.hid hk
      clear hm hk
      go_wp2_with fail
      refine (HF _ (a + k) (by omega) hlt2 HM.out.below).out.mono ?_
      rintro e w1 ⟨rfl, hb1⟩
      have HM := Lib.hid (HM.out.on hb1)
      have hls := HL.out (a + k) (by omega) hlt2
      have hd := rowOf_drop F a (room a en) k hlt
      generalize F (a + k) = s at hls hd ⊢
      have HD := Lib.hid hd
      clear hb1 hd
      go_wp2_with fail
      refine (sread_any s _ (by omega)).mono ?_
      rintro e w2 ⟨rfl, hb2⟩
      have HM := Lib.hid (HM.out.on hb2)
      clear hb2
      rcases hr : readR s with _ | p
      · have hRR : R = none := by rw [← hn.out, HD.out]; exact nextL_none hr
        subst hRR
        clear hr
        simp only [Option.getD_none, Option.isSome_none, Bool.false_eq_true, if_false, pcV, Pc.zero]
        go_upto_region 7 with (fail)
        have hpb := heap_alloc_new w2 (.cells #[.int .u64 ((0 : Nat) : Int), .int .i64 0, .int .i64 0, .int .i64 0, .int .i64 0, .string ⟨([] : List UInt8).toArray⟩] 24)
        have hm3 := HM.out.on ((Below.refl _ _).alloc (Nat.le_refl _) (.cells #[.int .u64 ((0 : Nat) : Int), .int .i64 0, .int .i64 0, .int .i64 0, .int .i64 0, .string ⟨([] : List UInt8).toArray⟩] 24))
        have hpn := block_lt HM.out.first
        generalize (w2.alloc (.cells #[.int .u64 0, .int .i64 0, .int .i64 0, .int .i64 0, .int .i64 0, .string ⟨#[]⟩] 24)) = W3 at hpb hm3 ⊢
        clear HM
        generalize w2.heap.size = pb at hpb hpn ⊢
        have HM := Lib.hid hm3
        have HPB := Lib.hid hpb
        clear hm3 hpb w2
        have kk := block_cell HPB.out
        have k0 : W3.cell? ⟨pb, 0, none⟩ = some (.int .u64 0) := kk 0
        have k1 : W3.cell? ⟨pb, 1, none⟩ = some (.int .i64 0) := kk 1
        have k2 : W3.cell? ⟨pb, 2, none⟩ = some (.int .i64 0) := kk 2
        have k3 : W3.cell? ⟨pb, 3, none⟩ = some (.int .i64 0) := kk 3
        have k4 : W3.cell? ⟨pb, 4, none⟩ = some (.int .i64 0) := kk 4
        have k5 : W3.cell? ⟨pb, 5, none⟩ = some (.string ⟨#[]⟩) := kk 5
        clear kk
        rcases Nat.eq_zero_or_pos k with hk0 | hk0
        · have hk1 : (((k : Nat) : Int) == 0) = true := by rw [beq_iff_eq]; omega
          clear hk0
          go_upto_region 8 with (fail)
          repeat (first | (go_big_may; (with_reducible refine wpList_store_pc rfl _ _ rfl (w.heap.size + 1) #[.int .u64 0, .int .i64 0, .int .i64 0, .int .i64 0, .int .i64 0, .string ⟨#[]⟩] (pcV first) ?_ ?_ HM.out.first rfl rfl z6_one ?_); (· rfl); (· rfl); intro w5 hq hf; have HQ := Lib.hid hq; have HF5 := Lib.hid hf; clear hq hf) | (go_not_at_region 9; first | go_values | go_skip | go_guarded | go_step | go_upon))
          simp only [Act.put]
          have HM := Lib.hid (HM.out.stored (f := Pc.zero) HF5.out HQ.out)
          clear k0 k1 k2 k3 k4 k5 HQ HF5
          go_wp2
          go_ret3
          exact ⟨rfl, HM.out.below⟩
        · have hk1 : (((k : Nat) : Int) == 0) = false := by rw [beq_eq_false_iff_ne]; omega
          go_wp2
          go_ret3
          exact ⟨rfl, HM.out.below⟩
      · have hp := readR_some hr
        have hpr := (Pc.right_iff p).1 hp.1
        obtain ⟨st, ge, nn, ix, to, da⟩ := p
        simp only at hpr
        have HP := Lib.hid hpr
        have HR := Lib.hid hr
        clear hp hr hpr
        simp only [Option.getD_some, Option.isSome_some, if_true, pcV]
        go_upto_region 7 with (fail)
        have hpb := heap_alloc_new w2 (.cells #[.int .u64 (st : Int), .int .i64 ge, .int .i64 nn, .int .i64 ix, .int .i64 to, .string ⟨da.toArray⟩] 24)
        have hm3 := HM.out.on ((Below.refl _ _).alloc (Nat.le_refl _) (.cells #[.int .u64 (st : Int), .int .i64 ge, .int .i64 nn, .int .i64 ix, .int .i64 to, .string ⟨da.toArray⟩] 24))
        have hpn := block_lt HM.out.first
        generalize (w2.alloc (.cells #[.int .u64 (st : Int), .int .i64 ge, .int .i64 nn, .int .i64 ix, .int .i64 to, .string ⟨da.toArray⟩] 24)) = W3 at hpb hm3 ⊢
        clear HM
        generalize w2.heap.size = pb at hpb hpn ⊢
        have HM := Lib.hid hm3
        have HPB := Lib.hid hpb
        clear hm3 hpb w2
        rcases Nat.eq_zero_or_pos k with hk0 | hk0
        case' inl =>
          have hk1 : (((k : Nat) : Int) == 0) = true := by rw [beq_iff_eq]; omega
          have HK0 := Lib.hid hk0
          clear hk0
          go_upto_region 8 with (fail)
          have kk := block_cell HPB.out
          have k0 : W3.cell? ⟨pb, 0, none⟩ = some (.int .u64 (st : Int)) := kk 0
          have k1 : W3.cell? ⟨pb, 1, none⟩ = some (.int .i64 ge) := kk 1
          have k2 : W3.cell? ⟨pb, 2, none⟩ = some (.int .i64 nn) := kk 2
          have k3 : W3.cell? ⟨pb, 3, none⟩ = some (.int .i64 ix) := kk 3
          have k4 : W3.cell? ⟨pb, 4, none⟩ = some (.int .i64 to) := kk 4
          have k5 : W3.cell? ⟨pb, 5, none⟩ = some (.string ⟨da.toArray⟩) := kk 5
          clear kk
          repeat (first | (go_big_may; (with_reducible refine wpList_store_pc rfl _ _ rfl (w.heap.size + 1) #[.int .u64 (st : Int), .int .i64 ge, .int .i64 nn, .int .i64 ix, .int .i64 to, .string ⟨da.toArray⟩] (pcV first) ?_ ?_ HM.out.first rfl rfl ?_ ?_); (· rfl); (· rfl); (· exact pc_one' st ge nn ix to da); intro w5 hq hf; have HQ := Lib.hid hq; have HF5 := Lib.hid hf; clear hq hf) | (go_not_at_region 9; first | go_values | go_skip | go_guarded | go_step | go_upon))
          simp only [Act.put]
          have hpn2 := hpn
          have HM := Lib.hid (HM.out.stored (f := ⟨st, ge, nn, ix, to, da⟩) HF5.out HQ.out)
          have HPB := Lib.hid ((HF5.out.block pb (block_lt HPB.out) (by omega)).trans HPB.out)
          obtain ⟨f, hf⟩ : ∃ f : Pc, f = ⟨st, ge, nn, ix, to, da⟩ := ⟨_, rfl⟩
          have HM : Hid (NextM w w5 acc f) := Lib.hid (by rw [hf]; exact HM.out)
          have HFK : Hid (f = if k = 0 then (⟨st, ge, nn, ix, to, da⟩ : Pc) else first) := Lib.hid (by rw [hf]; exact (if_pos HK0.out).symm)
          clear k0 k1 k2 k3 k4 k5 HQ HF5 hf
        case' inr =>
          have hk1 : (((k : Nat) : Int) == 0) = false := by rw [beq_eq_false_iff_ne]; omega
          go_upto_region 9 with (fail)
          obtain ⟨w5, hw5⟩ : ∃ w5, w5 = W3 := ⟨_, rfl⟩
          subst hw5
          obtain ⟨f, hf⟩ : ∃ f, f = first := ⟨_, rfl⟩
          have HM : Hid (NextM w w5 acc f) := Lib.hid (by rw [hf]; exact HM.out)
          have HFK : Hid (f = if k = 0 then (⟨st, ge, nn, ix, to, da⟩ : Pc) else first) := Lib.hid (by rw [hf]; exact (if_neg (by omega)).symm)
          clear hf
        all_goals
          have kk := block_cell HPB.out
          have k0 : w5.cell? ⟨pb, 0, none⟩ = some (.int .u64 (st : Int)) := kk 0
          have k1 : w5.cell? ⟨pb, 1, none⟩ = some (.int .i64 ge) := kk 1
          have k2 : w5.cell? ⟨pb, 2, none⟩ = some (.int .i64 nn) := kk 2
          have k3 : w5.cell? ⟨pb, 3, none⟩ = some (.int .i64 ix) := kk 3
          have k4 : w5.cell? ⟨pb, 4, none⟩ = some (.int .i64 to) := kk 4
          have k5 : w5.cell? ⟨pb, 5, none⟩ = some (.string ⟨da.toArray⟩) := kk 5
          have ff := block_cell HM.out.first
          clear kk
          by_cases hg : ge = gen
          case neg =>
            have hgb : (ge != gen) = true := by rw [bne_iff_ne]; exact hg
            have hRR : R = none := by rw [← hn.out, HD.out]; exact nextL_bad HR.out (fun hh => hg hh.1)
            subst hRR
            clear hg ff
            go_wp2
            go_ret3
            exact ⟨rfl, HM.out.below⟩
          subst hg
          by_cases hg : nn = no
          case neg =>
            have hgb : (nn != no) = true := by rw [bne_iff_ne]; exact hg
            have hRR : R = none := by rw [← hn.out, HD.out]; exact nextL_bad HR.out (fun hh => hg hh.2.1)
            subst hRR
            clear hg ff
            go_wp2
            go_ret3
            exact ⟨rfl, HM.out.below⟩
          subst hg
          obtain ⟨fst, fge, fnn, fix, fto, fda⟩ := f
          have q0 : w5.cell? ⟨w.heap.size + 1, 0, none⟩ = some (.int .u64 (fst : Int)) := ff 0
          have q1 : w5.cell? ⟨w.heap.size + 1, 1, none⟩ = some (.int .i64 fge) := ff 1
          have q2 : w5.cell? ⟨w.heap.size + 1, 2, none⟩ = some (.int .i64 fnn) := ff 2
          have q3 : w5.cell? ⟨w.heap.size + 1, 3, none⟩ = some (.int .i64 fix) := ff 3
          have q4 : w5.cell? ⟨w.heap.size + 1, 4, none⟩ = some (.int .i64 fto) := ff 4
          have q5 : w5.cell? ⟨w.heap.size + 1, 5, none⟩ = some (.string ⟨fda.toArray⟩) := ff 5
          clear ff
          go_wp2_with fail
          have hk16 : (k : Int) < 65536 := by rcases HK.out with h | h <;> omega
          have hpo := HP.out
          refine (part_any ⟨st, ge, nn, ix, to, da⟩ ⟨fst, fge, fnn, fix, fto, fda⟩ k w5 (by simp only; omega) (by simp only; omega) (by simp only; omega) (by omega) hk16).mono ?_
          rintro e w6 ⟨rfl, hb6⟩
          have HM := Lib.hid (HM.out.on hb6)
          have HPB := Lib.hid ((hb6.block pb (block_lt HPB.out)).trans HPB.out)
          clear k0 k1 k2 k3 k4 k5 q0 q1 q2 q3 q4 q5 hb6 hpo
          rcases hpb : partB ⟨st, ge, nn, ix, to, da⟩ ⟨fst, fge, fnn, fix, fto, fda⟩ (k : Int) with _ | _
          case false =>
            have hRR : R = none := by rw [← hn.out, HD.out]; refine nextL_bad HR.out (fun hh => ?_); rw [← HFK.out, hpb] at hh; exact Bool.noConfusion hh.2.2
            subst hRR
            clear hpb
            go_wp2
            go_ret3
            exact ⟨rfl, HM.out.below⟩
          have hpi := (partB_iff _ _ _).1 hpb
          have HPI := Lib.hid hpi
          have HG : Hid (partB ⟨st, ge, nn, ix, to, da⟩ (if k = 0 then ⟨st, ge, nn, ix, to, da⟩ else first) (k : Int) = true) := Lib.hid (by rw [← HFK.out]; exact hpb)
          clear hpi hpb
          have kk := block_cell HPB.out
          have k4 : w6.cell? ⟨pb, 4, none⟩ = some (.int .i64 to) := kk 4
          have k5 : w6.cell? ⟨pb, 5, none⟩ = some (.string ⟨da.toArray⟩) := kk 5
          clear kk
          go_wp2_with fail
          have hdl : (⟨da.toArray⟩ : ByteArray).size = da.length := by simp [ByteArray.size]
          have hpo := HP.out
          have hbl : (Lib.byteCells acc).length = acc.length := by simp [Lib.byteCells]
          refine (bwrite_any w.heap.size w.heap.size (Lib.byteCells acc) ⟨da.toArray⟩ w6 HM.out.builder (by rw [hdl, hbl]; omega) HM.out.below.size).mono ?_
          rintro e w7 ⟨rfl, hA7, hb7, ho7⟩
          have HM := Lib.hid (HM.out.wrote hA7 hb7 ho7)
          have HPB := Lib.hid (ho7 _ _ HPB.out (by simp; omega) (by intro c fz e; simp at e))
          have kk := block_cell HPB.out
          clear k4 k5 hA7 hb7 ho7 hdl hpo hbl
          have k4 : w7.cell? ⟨pb, 4, none⟩ = some (.int .i64 to) := kk 4
          clear kk
          have hto : 0 ≤ to ∧ to < 65536 := by have := HP.out; omega
          have hto1 := hto.1
          have hto2 := hto.2
          clear hto
          by_cases ht : (k : Int) + 1 = to
          case pos =>
            have htb : ((k : Int) == to - 1) = true := by rw [beq_iff_eq]; omega
            have hRR : R = some (acc ++ da, k + 1) := by rw [← hn.out, HD.out]; exact nextL_end HR.out ⟨rfl, rfl, HG.out⟩ ht
            subst hRR
            clear ht
            go_wp2_with fail
            refine (bstring_any w.heap.size w.heap.size (acc ++ da) w7 HM.out.builder HM.out.below.size).mono ?_
            rintro e w8 ⟨rfl, hA8, hb8, ho8⟩
            go_wp2_with fail
            go_ret3
            refine ⟨?_, HM.out.below.trans hb8⟩
            simp only [nextV]
            congr 4
            simp
            omega
          case neg =>
            have htb : ((k : Int) == to - 1) = false := by rw [beq_eq_false_iff_ne]; omega
            have hon : R = nextL ge nn (List.drop (k + 1) (rowOf F a (room a en))) (k + 1) (acc ++ da) ⟨fst, fge, fnn, fix, fto, fda⟩ := by
              rw [← hn.out, HD.out]
              refine (nextL_on HR.out ⟨rfl, rfl, HG.out⟩ ht).trans ?_
              rw [← HFK.out]
            have HON := Lib.hid hon
            clear hon
            go_wp2_with fail
            have hpo := HPI.out
            refine ⟨⟨k + 1, acc ++ da, ⟨fst, fge, fnn, fix, fto, fda⟩, rfl, HM.out, Lib.hid HON.out.symm, ?_, .inr ?_, by omega⟩, ?_⟩
            · rw [List.length_append]; have := HP.out; omega
            · have h1 := HP.out
              have h2 := hpo.2.2.2
              show ((k + 1 : Nat) : Int) < fto ∧ fto < 65536
              omega
            · show room a en - ((k : Int) + 1).toNat < room a en - (k : Int).toNat
              omega
    · have hRR : R = none := by rw [← hn.out, rowOf_end _ _ _ _ (by omega)]; rfl
      subst hRR
      by_cases h0a : 0 ≤ a
      · have hge : en ≤ a + k := by have : room a en = (en - a).toNat := if_pos h0a; omega
        have hs : a + k ≤ 9223372036854775807 := by have : room a en = (en - a).toNat := if_pos h0a; omega
        have HM := Lib.hid hm
        clear hm hk
        go_wp2
        go_ret3
        exact ⟨rfl, HM.out.below⟩
      · have HM := Lib.hid hm
        clear hm hk
        go_wp2
        go_ret3
        exact ⟨rfl, HM.out.below⟩
end Go.Proofs.YtbdhicjebeoakaaDoor
