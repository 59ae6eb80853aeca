/- The reference's Open (package lockageref05), of the sectors of both halves. -/
import Derived.Test.YtbdhicjebeoakaaDoorSecs
set_option linter.unusedVariables false
set_option linter.unusedSimpArgs false
namespace Go.Proofs.YtbdhicjebeoakaaDoor
open Go.RowKit

theorem meas_go (half a x : Nat) (h1 : 0 < x) (h2 : a + x ≤ half) : half - ((a : Int) + (x : Int)).toNat < half - (a : Int).toNat := by omega
/-- A disk of these sectors. -/
def dk (K : List (List UInt8)) : DSt := { kept := K, cache := [], off := false, armed := 0, bits := 0, writes := 0 }
def rst (K : List (List UInt8)) (half : Nat) : Nat → LSt
  | 0 => ⟨0, half, 0, 0, 0, [], []⟩
  | h + 1 => (rst K half h).scan (dk K) (1 - (h : Int))
theorem rst_two (K : List (List UInt8)) (half : Nat) : rst K half 2 = LSt.opened 0 half 0 (dk K) := rfl
theorem rst_base (K : List (List UInt8)) (half h : Nat) : (rst K half h).base = 0 ∧ (rst K half h).half = half := by
  induction h with
  | zero => exact ⟨rfl, rfl⟩
  | succ h ih =>
    have := (rst K half h).scan_base (dk K) (1 - (h : Int))
    exact ⟨this.1.trans ih.1, this.2.1.trans ih.2⟩
/-- What one's own log of the reference is, with all that is new counted as its own. -/
structure OwnR (W w : World) (rb : Nat) (M : LSt) : Prop where
  below : Below W.heap.size W w
  log : IsRLog w (fun k => W.heap.size ≤ k ∧ k < w.heap.size) rb M
theorem OwnR.later {W w w' : World} {rb : Nat} {M : LSt} (h : OwnR W w rb M) (hb : Below w.heap.size w w') : OwnR W w' rb M := by
  have hs := h.below.size
  have hs' := hb.size
  exact ⟨h.below.trans (hb.mono hs), (h.log.below hb).grow (fun k hk => ⟨hk.1, by omega⟩) (fun k hk => hk.2)⟩
theorem OwnR.made {W w : World} {M : LSt} (hb : Below W.heap.size W w) (hM : M.recs = []) : OwnR W (w.alloc (.cells (rlogCells (.slice none 0 0) M) 72)) w.heap.size M := by
  have hs := hb.size
  refine ⟨hb.alloc hs _, .slice none 0 0, heap_alloc_new _ _, ?_, ⟨hs, by simp⟩, fun k hk => by simp [Value.ownBlock] at hk, fun k hk => hk.2⟩
  rw [hM]; exact World.ownsRow_nil _ _ _ _
theorem OwnStrs.cut {b : Nat} {w : World} {A : Option Addr} {n cap : Nat} {K : List (List UInt8)} (h : OwnStrs b w (.slice A n cap) K) (st half : Nat) (hfit : st + half ≤ K.length) (h0 : 0 < K.length) :
    ∃ g, A = some ⟨g, 0, none⟩ ∧ n = K.length ∧ K.length ≤ cap ∧ StrsAt w (.slice (some ⟨g, st, none⟩) half (cap - st)) (halfL K st half) := by
  have h' := h
  obtain ⟨A', cap', e, hle, hr⟩ := own_form1 h'
  injection e with e1 e2 e3
  subst e1 e2 e3
  obtain ⟨g, cur, rfl, _, hg, hc⟩ := hr h0
  have hl := halfL_length hfit
  have hcap : K.length ≤ cap := by
    rcases h.2 with ⟨e, _⟩ | ⟨g', cap', cur', e, _, _, hnc, _⟩
    · cases e
    · injection e with _ _ e3
      omega
  refine ⟨g, rfl, rfl, hcap, some ⟨g, st, none⟩, cap - st, by rw [hl], by rw [hl]; omega, fun i s hs => ⟨g, st, rfl, ?_⟩⟩
  have hi : i < half := by
    rcases Nat.lt_or_ge i half with h | h
    · exact h
    · rw [List.getElem?_eq_none (by rw [hl]; exact h)] at hs; cases hs
  have hk : K[st + i]? = some s := by
    rw [halfL, List.getElem?_take, if_pos hi, List.getElem?_drop] at hs
    exact hs
  rw [block_cell hg]
  exact hc (st + i) _ (by rw [strs_get, hk]; rfl)
theorem dk_text (K : List (List UInt8)) (M : LSt) (gen : Int) (a : Nat) (no : Int) (hK : M.start gen + M.half ≤ K.length) (ha : a ≤ M.half) : M.text (dk K) gen a no = nextL gen no ((halfL K (M.start gen) M.half).drop a) 0 [] Pc.zero :=
  text_half (d := dk K) rfl rfl hK a ha no
theorem dk_read (K : List (List UInt8)) (j : Nat) : readF (dk K) (j : Int) = K.getD j [] := readF_eq (d := dk K) rfl rfl j
set_option maxRecDepth 20000 in
set_option maxHeartbeats 4000000 in
theorem ropen_any {w : World} {b : Nat} {v : Value} {K : List (List UInt8)} (hv : OwnStrs b w v K) (half : Nat) (h1 : 1 ≤ half) (h2 : half ≤ 2000) (hK : K.length = 2 * half) (hKs : ∀ t ∈ K, t.length ≤ 1000000) :
    Calls Tryd.prog 41 #[v, .int .i64 (half : Int)] w fun e w' => ∃ rb, e = .returned (.pointer (some ⟨rb, 0, none⟩)) ∧ OwnR w w' rb (rst K half 2) := by
  obtain ⟨A, cap, rfl, -, -⟩ := own_form1 hv
  have HCUT := fun st h => Lib.hid (hv.cut st half (h : st + half ≤ K.length) (by omega))
  obtain ⟨g, rfl, hn, hcap, -⟩ := (HCUT 0 (by omega)).out
  have HV : ∀ st, st + half ≤ K.length → Hid (StrsAt w (.slice (some ⟨g, st, none⟩) half (cap - st)) (halfL K st half)) := fun st h => by
    obtain ⟨g', e, _, _, hs⟩ := (HCUT st h).out
    injection e with e
    injection e with e _ _
    subst e
    exact Lib.hid hs
  rw [hK] at hcap ⊢
  have HK := Lib.hid hK
  have HKS := Lib.hid hKs
  clear hv HCUT hn hK hKs
  go_enter Tryd.func41, Tryd.ntmps41
  go_wp2_with fail
  have H0 := Lib.hid (OwnR.made (Below.refl w.heap.size w) (M := ⟨0, half, 0, 0, 0, [], []⟩) rfl)
  change Code.wp _ _ _ _ (w.alloc (.cells (rlogCells (.slice none 0 0) ⟨0, half, 0, 0, 0, [], []⟩) 72))
  generalize w.alloc (.cells (rlogCells (.slice none 0 0) ⟨0, half, 0, 0, 0, [], []⟩) 72) = w0 at H0 ⊢
  go_loopw [5, 6] (fun ov hv wr => ∃ hh ob : Nat, hv = .int .i64 (hh : Int) ∧ ov = .pointer (some ⟨ob, 0, none⟩) ∧ hh ≤ 2 ∧ Hid (OwnR w wr ob (rst K half hh))) (fun _ h _ => match h with | .int _ h => 2 - h.toNat | _ => 0)
  case atStart => exact ⟨0, w.heap.size, rfl, rfl, by omega, H0⟩
  case round =>
    obtain ⟨hh, ob, rfl, rfl, hh2, HM⟩ := hrel
    by_cases hlt : hh < 2
    · obtain ⟨M, hM⟩ : ∃ M, M = rst K half hh := ⟨_, rfl⟩
      have hMb := rst_base K half hh
      have hMn : rst K half (hh + 1) = M.scan (dk K) (1 - (hh : Int)) := by rw [hM]; rfl
      rw [← hM] at HM hMb
      obtain ⟨st, hst⟩ : ∃ st, st = hh * half := ⟨_, rfl⟩
      have hsk : M.start (1 - (hh : Int)) = st := by
        unfold LSt.start
        rw [hMb.1, hMb.2, hst]
        rcases (show hh = 0 ∨ hh = 1 by omega) with rfl | rfl
        · simp
        · simp
      have hstf : st + half ≤ K.length := by have := HK.out; rw [hst]; rcases (show hh = 0 ∨ hh = 1 by omega) with rfl | rfl <;> omega
      have hstf2 : st + half ≤ 2 * half := by have := HK.out; omega
      have hm1 : IntKind.i64.wrap ((hh : Int) * (half : Int)) = (st : Int) := by
        rw [IntKind.wrap_i64, hst]; rcases (show hh = 0 ∨ hh = 1 by omega) with rfl | rfl <;> omega
      have hm2 : IntKind.i64.wrap ((st : Int) + (half : Int)) = ((st + half : Nat) : Int) := by rw [IntKind.wrap_i64]; omega
      have HS := HV st hstf
      have HMN := Lib.hid hMn
      have HMB := Lib.hid hMb
      have HSK := Lib.hid hsk
      have hlen : st + half - st = half := by omega
      have hS0 : (halfL K st half)[0]? = some (K.getD st []) := by
        rw [List.getElem?_eq_getElem (by rw [halfL_length hstf]; omega)]
        have := halfL_getD K st half 0 (by omega)
        rw [List.getD_eq_getElem?_getD, List.getElem?_eq_getElem (by rw [halfL_length hstf]; omega), Nat.add_zero] at this
        rw [← this]; rfl
      have hscan : M.scan (dk K) (1 - (hh : Int)) = match readR (K.getD st []) with
          | none => M
          | some p => if p.gen ≤ M.gen ∨ p.gen % 2 ≠ 1 - (hh : Int) then M else match M.text (dk K) p.gen 0 0 with
            | none => M
            | some r => { M with gen := p.gen.toNat, first := r.1, recs := (M.more (dk K) p.gen M.half r.2 []).1, at_ := (M.more (dk K) p.gen M.half r.2 []).2 } := by
        unfold LSt.scan
        rw [hsk, dk_read]
        rfl
      have hsl0 : (K.getD st []).length ≤ 1000000 := by
        rw [List.getD_eq_getElem?_getD, List.getElem?_eq_getElem (show st < K.length by omega)]
        exact HKS.out _ (List.getElem_mem _)
      generalize K.getD st [] = s0 at hS0 hscan hsl0
      have hc0 : w.cell? ⟨g, st, none⟩ = some (.string ⟨s0.toArray⟩) := by
        obtain ⟨A', c', e, _, hr⟩ := HS.out
        injection e with e1 _ _
        obtain ⟨g', o', e', hc⟩ := hr 0 s0 hS0
        rw [← e1] at e'
        injection e' with e'
        injection e' with e1 e2
        subst e1 e2
        exact hc
      have hc : wr.cell? ⟨g, st, none⟩ = some (.string ⟨s0.toArray⟩) := (HM.out.below.cell (p := ⟨g, st, none⟩) (World.block_lt_of_cell? _ _ hc0)).trans hc0
      have HSC := Lib.hid hscan
      clear hM hMn hMb hst hsk hS0 hscan hc0
      go_wp2_with fail
      refine (rread_any s0 _ (by omega)).mono ?_
      rintro e w2 ⟨rfl, hb2⟩
      have HM := Lib.hid (HM.out.later hb2)
      clear hb2 hc hm1 hm2
      simp only [hlen]
      rcases hr : readR s0 with _ | p
      · have hsc : rst K half (hh + 1) = M := by rw [HMN.out, HSC.out, hr]
        have HSC2 := Lib.hid hsc
        clear hsc hr
        simp only [Option.getD_none, Option.isSome_none, Bool.false_eq_true, if_false, pcV, Pc.zero]
        go_upto_region 7 with (fail)
        have HM := Lib.hid (HM.out.later ((Below.refl _ _).alloc (Nat.le_refl _) (.cells #[.int .u64 ((0 : Nat) : Int), .int .i64 0, .int .i64 0, .int .i64 0, .int .i64 0, .string ⟨([] : List UInt8).toArray⟩] 30)))
        generalize (w2.alloc (.cells #[.int .u64 0, .int .i64 0, .int .i64 0, .int .i64 0, .int .i64 0, .string ⟨#[]⟩] 30)) = w3 at HM ⊢
        go_quiet (fail)
        have HM := Lib.hid (HM.out.later (below_drewN (Below.refl _ _) nq))
        go_wp2_with fail
        refine ⟨⟨hh + 1, ob, rfl, rfl, by omega, Lib.hid ?_⟩, ?_⟩
        · rw [HSC2.out]; exact HM.out
        · show 2 - ((hh : Int) + 1).toNat < 2 - (hh : Int).toNat
          omega
      · have hp := readR_some hr
        have hpr := (Pc.right_iff p).1 hp.1
        obtain ⟨st_, ge, nn, ix, to, da⟩ := p
        simp only at hpr
        have HP := Lib.hid hpr
        rw [hr] at HSC
        clear hp hr hpr
        simp only [Option.getD_some, Option.isSome_some, if_true, pcV]
        go_upto_region 7 with (fail)
        have hpb := heap_alloc_new w2 (.cells #[.int .u64 (st_ : Int), .int .i64 ge, .int .i64 nn, .int .i64 ix, .int .i64 to, .string ⟨da.toArray⟩] 30)
        have HM := Lib.hid (HM.out.later ((Below.refl _ _).alloc (Nat.le_refl _) (.cells #[.int .u64 (st_ : Int), .int .i64 ge, .int .i64 nn, .int .i64 ix, .int .i64 to, .string ⟨da.toArray⟩] 30)))
        generalize (w2.alloc (.cells #[.int .u64 (st_ : Int), .int .i64 ge, .int .i64 nn, .int .i64 ix, .int .i64 to, .string ⟨da.toArray⟩] 30)) = w3 at HM hpb ⊢
        generalize w2.heap.size = pb at hpb ⊢
        have HPB := Lib.hid hpb
        have k1 : w3.cell? ⟨pb, 1, none⟩ = some (.int .i64 ge) := block_cell hpb 1
        obtain ⟨rv, hrm⟩ := HM.out.log
        have q0 : w3.cell? ⟨ob, 0, none⟩ = some (.int .i64 (M.gen : Int)) := hrm.cells.1
        clear hpb hrm
        by_cases hA : ge < 1
        · have hAb : decide (ge < 1) = true := decide_eq_true hA
          have HSC2 := Lib.hid (show rst K half (hh + 1) = M by rw [HMN.out, HSC.out]; exact if_pos (.inl (show ge ≤ (M.gen : Int) by omega)))
          clear hA
          go_quiet (fail)
          have HM := Lib.hid (HM.out.later (below_drewN (Below.refl _ _) nq))
          go_wp2_with fail
          refine ⟨⟨hh + 1, ob, rfl, rfl, by omega, Lib.hid ?_⟩, ?_⟩
          · rw [HSC2.out]; exact HM.out
          · show 2 - ((hh : Int) + 1).toNat < 2 - (hh : Int).toNat
            omega
        have hAb : decide (ge < 1) = false := decide_eq_false hA
        have hmod : ge.tmod 2 = ge % 2 := Int.tmod_eq_emod_of_nonneg (by omega)
        by_cases hB : ge % 2 = (hh : Int)
        · have hBb : (ge % 2 == (hh : Int)) = true := by rw [beq_iff_eq]; exact hB
          have HSC2 := Lib.hid (show rst K half (hh + 1) = M by rw [HMN.out, HSC.out]; exact if_pos (.inr (by simp only; omega)))
          clear hA hB
          go_quiet (fail)
          have HM := Lib.hid (HM.out.later (below_drewN (Below.refl _ _) nq))
          go_wp2_with fail
          refine ⟨⟨hh + 1, ob, rfl, rfl, by omega, Lib.hid ?_⟩, ?_⟩
          · rw [HSC2.out]; exact HM.out
          · show 2 - ((hh : Int) + 1).toNat < 2 - (hh : Int).toNat
            omega
        have hBb : (ge % 2 == (hh : Int)) = false := by rw [beq_eq_false_iff_ne]; exact hB
        by_cases hC : ge ≤ (M.gen : Int)
        · have hCb : decide (ge ≤ (M.gen : Int)) = true := decide_eq_true hC
          have HSC2 := Lib.hid (show rst K half (hh + 1) = M by rw [HMN.out, HSC.out]; exact if_pos (.inl hC))
          clear hA hB hC
          go_quiet (fail)
          have HM := Lib.hid (HM.out.later (below_drewN (Below.refl _ _) nq))
          go_wp2_with fail
          refine ⟨⟨hh + 1, ob, rfl, rfl, by omega, Lib.hid ?_⟩, ?_⟩
          · rw [HSC2.out]; exact HM.out
          · show 2 - ((hh : Int) + 1).toNat < 2 - (hh : Int).toNat
            omega
        have hCb : decide (ge ≤ (M.gen : Int)) = false := decide_eq_false hC
        have hsc : rst K half (hh + 1) = match M.text (dk K) ge 0 0 with
            | none => M
            | some r => { M with gen := ge.toNat, first := r.1, recs := (M.more (dk K) ge M.half r.2 []).1, at_ := (M.more (dk K) ge M.half r.2 []).2 } := by
          rw [HMN.out, HSC.out]
          exact if_neg (fun h => h.elim hC (fun h => h (show ge % 2 = 1 - (hh : Int) by omega)))
        have hge0 : ((ge.toNat : Nat) : Int) = ge := by omega
        have hsg : M.start ge = st := by
          rw [← HSK.out]
          unfold LSt.start
          rcases (show hh = 0 ∨ hh = 1 by omega) with rfl | rfl
          · rw [if_pos (by omega), if_pos (by decide)]
          · rw [if_neg (by omega), if_neg (by decide)]
        have HSCR := Lib.hid hsc
        have HSG := Lib.hid hsg
        have HGE := Lib.hid hge0
        clear hA hB hC hsc hsg hge0 HSC HMN
        go_quiet (fail)
        have HM := Lib.hid (HM.out.later (below_drewN (Below.refl _ _) nq))
        have HPB := Lib.hid (show (w3.drewN nq).heap[pb]? = _ from HPB.out)
        generalize w3.drewN nq = w4 at HM HPB ⊢
        have k1 : w4.cell? ⟨pb, 1, none⟩ = some (.int .i64 ge) := block_cell HPB.out 1
        have hMh := HMB.out.2
        have hTX : ∀ a : Nat, a ≤ half → ∀ no, M.text (dk K) ge a no = nextL ge no ((halfL K st half).drop a) 0 [] Pc.zero := fun a ha no => by
          have := dk_text K M ge a no (by rw [HSG.out, hMh]; exact hstf) (by rw [hMh]; exact ha)
          rw [HSG.out, hMh] at this
          exact this
        have HTX := Lib.hid hTX
        have hHK : ∀ t ∈ halfL K st half, t.length ≤ 1000000 := fun t ht => HKS.out t (List.mem_of_mem_drop (List.mem_of_mem_take ht))
        have hNX : ∀ W, Below w.heap.size w W → ∀ (a : Nat) (no : Int), a ≤ half → Hid (Calls Tryd.prog 63 #[.slice (some ⟨g, st, none⟩) half (cap - st), .int .i64 (a : Int), .int .i64 (half : Int), .int .i64 ge, .int .i64 no] W fun e w' => e = .returned (nextV (a : Int) (M.text (dk K) ge a no)) ∧ Below W.heap.size W w') := fun W hW a no ha => by
          have := rnext_any (HS.out.on hW) hHK half a ge no (halfL_length hstf).symm (by omega) ha
          rw [← HTX.out a ha no] at this
          exact Lib.hid this
        have HNX := Lib.hid hNX
        clear hTX hNX hHK hMh
        obtain ⟨R, hR⟩ : ∃ R, R = M.text (dk K) ge 0 0 := ⟨_, rfl⟩
        rw [← hR] at HSCR
        have hn0 := (HNX.out w4 HM.out.below 0 0 (by omega)).out
        rw [show ((0 : Nat) : Int) = 0 from rfl, ← hR] at hn0
        have HN0 := Lib.hid hn0
        have HRT := Lib.hid hR
        clear hR hn0
        go_wp2_with fail
        refine HN0.out.mono ?_
        rintro e w5 ⟨rfl, hb5⟩
        have HM := Lib.hid (HM.out.later hb5)
        have HPB := Lib.hid ((hb5.block pb (block_lt HPB.out)).trans HPB.out)
        clear hb5 HN0 k1
        have k1 : w5.cell? ⟨pb, 1, none⟩ = some (.int .i64 ge) := block_cell HPB.out 1
        rcases R with _ | r
        · have HSC2 := Lib.hid (show rst K half (hh + 1) = M from HSCR.out)
          simp only [nextV]
          go_wp2_with fail
          refine ⟨⟨hh + 1, ob, rfl, rfl, by omega, Lib.hid ?_⟩, ?_⟩
          · rw [HSC2.out]; exact HM.out
          · show 2 - ((hh : Int) + 1).toNat < 2 - (hh : Int).toNat
            omega
        simp only [nextV]
        have hrle := LSt.text_le HRT.out.symm
        rw [HMB.out.2] at hrle
        obtain ⟨N, hN⟩ : ∃ N : List (List UInt8) → Nat → LSt, N = fun rs a => { M with gen := ge.toNat, first := r.1, recs := rs, at_ := a } := ⟨_, rfl⟩
        have hcells : rlogCells (.slice none 0 0) (N [] r.2) = #[.int .i64 ge, .int .i64 (half : Int), .string ⟨r.1.toArray⟩, .slice none 0 0, .int .i64 (r.2 : Int)] := by
          rw [hN]; simp only [rlogCells, HGE.out, HMB.out.2]
        have hmade := OwnR.made HM.out.below (M := N [] r.2) (by rw [hN])
        rw [hcells] at hmade
        have hpbm := (Below.heap_alloc w5 (.cells #[.int .i64 ge, .int .i64 (half : Int), .string ⟨r.1.toArray⟩, .slice none 0 0, .int .i64 (r.2 : Int)] 72) pb (block_lt HPB.out)).trans HPB.out
        have HMADE := Lib.hid hmade
        have HPBM := Lib.hid hpbm
        obtain ⟨T, hT⟩ : ∃ T, T = M.more (dk K) ge half r.2 [] := ⟨_, rfl⟩
        have hfin : rst K half (hh + 1) = N T.1 T.2 := by
          rw [HSCR.out, hN, hT, HMB.out.2]
        have HFIN := Lib.hid hfin
        have HT := Lib.hid hT
        have HN := Lib.hid hN
        clear hmade hpbm hcells hN hT hfin HSCR
        have hr2 : r.2 ≤ half := by have := hrle.2; omega
        have hz : wrap64 (0 + (r.2 : Int)) = (r.2 : Int) := by unfold wrap64; omega
        go_wp2_with fail
        change Code.wp _ _ _ _ (w5.alloc (.cells #[.int .i64 ge, .int .i64 (half : Int), .string ⟨r.1.toArray⟩, .slice none 0 0, .int .i64 (r.2 : Int)] 72))
        generalize w5.alloc (.cells #[.int .i64 ge, .int .i64 (half : Int), .string ⟨r.1.toArray⟩, .slice none 0 0, .int .i64 (r.2 : Int)] 72) = w6 at HMADE HPBM ⊢
        generalize w5.heap.size = nb at HMADE ⊢
        clear HPB k1 HM
        go_loopw [11, 13] (fun av nv wr => ∃ (rs : List (List UInt8)) (a : Nat), av = .int .i64 (a : Int) ∧ nv = .int .i64 ((rs.length + 1 : Nat) : Int) ∧ a ≤ half ∧ rs.length ≤ a ∧ Hid (OwnR w wr nb (N rs a)) ∧ Hid (wr.heap[pb]? = some (.cells #[.int .u64 (st_ : Int), .int .i64 ge, .int .i64 nn, .int .i64 ix, .int .i64 to, .string ⟨da.toArray⟩] 30 (0, 0))) ∧ ∃ f, half ≤ a + f ∧ Hid (M.more (dk K) ge f a rs = T)) (fun a _ _ => match a with | .int _ a => half - a.toNat | _ => 0)
        case atStart => exact ⟨[], r.2, rfl, rfl, hr2, Nat.zero_le _, HMADE, HPBM, half, Nat.le_add_left _ _, Lib.hid HT.out.symm⟩
        case round =>
          obtain ⟨rs, a, rfl, rfl, ha, hra, HM, HPB, f, hf, hmore⟩ := hrel
          have k1 : wr.cell? ⟨pb, 1, none⟩ = some (.int .i64 ge) := block_cell HPB.out 1
          obtain ⟨R, hR⟩ : ∃ R, R = M.text (dk K) ge a ((rs.length + 1 : Nat) : Int) := ⟨_, rfl⟩
          have hn0 := (HNX.out wr HM.out.below a ((rs.length + 1 : Nat) : Int) ha).out
          rw [← hR] at hn0
          have HN0 := Lib.hid hn0
          have HRT := Lib.hid hR
          clear hR hn0
          go_wp2_with fail
          refine HN0.out.mono ?_
          rintro e w7 ⟨rfl, hb7⟩
          have HM := Lib.hid (HM.out.later hb7)
          have HPB := Lib.hid ((hb7.block pb (block_lt HPB.out)).trans HPB.out)
          clear hb7 HN0 k1
          rcases R with _ | x
          · have hTT : T = (rs, a) := by
              rw [← hmore.out]
              exact LSt.more_none HRT.out.symm f
            have HFIN2 := Lib.hid (show rst K half (hh + 1) = N rs a by rw [HFIN.out, hTT])
            clear hTT hmore
            simp only [nextV]
            go_wp2_with fail
            refine ⟨⟨hh + 1, nb, rfl, rfl, by omega, Lib.hid ?_⟩, ?_⟩
            · rw [HFIN2.out]; exact HM.out
            · show 2 - ((hh : Int) + 1).toNat < 2 - (hh : Int).toNat
              omega
          · simp only [nextV]
            have hxle := LSt.text_le HRT.out.symm
            rw [HMB.out.2] at hxle
            obtain ⟨rv, hrm⟩ := HM.out.log
            have hrm' : RLMem w7 (fun k => w.heap.size ≤ k ∧ k < w7.heap.size) nb rv (N rs a) := hrm
            obtain ⟨A7, cap7, rfl, -, -⟩ := own_form1 hrm.recs
            have hNr : (N rs a).recs = rs := by rw [HN.out]
            have hrecs := hrm.recs
            rw [hNr] at hrm hrecs
            have HRM := Lib.hid hrm
            have HOWN := Lib.hid hrecs
            have c3 : w7.cell? ⟨nb, 3, none⟩ = some (.slice A7 rs.length cap7) := hrm.cells.2.2.2.1
            have hrl2 : rs.length ≤ 1000000000 := by omega
            have hz2 : IntKind.i64.wrap ((a : Int) + (x.2 : Int)) = ((a + x.2 : Nat) : Int) := by rw [IntKind.wrap_i64]; omega
            clear hrm hrm' hrecs
            have hNlb : nb < w7.heap.size := block_lt HRM.out.blk
            (try dsimp only); repeat (first | (go_big_may; first | ((with_reducible refine wpList_buildCell rfl 41 9 _ rfl _ ?_ ?_ Tryd.underlying41 (by kernel_rfl) ?_); (· rfl); (· rfl)) | ((with_reducible refine wpList_append_rec rfl _ _ rfl (.slice A7 rs.length cap7) rs x.1 ?_ HOWN.out ?_ hrl2 ?_); (· rfl); (· rfl); intro A2 n2 c2 w8 hown1 hfr1 hat1; have hb8 := (hfr1.block nb (block_lt HRM.out.blk) HRM.out.rv_ne).trans HRM.out.blk; have q3 : w8.cell? ⟨nb, 3, none⟩ = some (.slice A7 rs.length cap7) := block_cell hb8 3; have q4 : w8.cell? ⟨nb, 4, none⟩ = some (.int .i64 ((N rs a).at_ : Int)) := block_cell hb8 4; have g3 := block_free hb8 3; have g4 := block_free hb8 4; have HB8 := Lib.hid hb8; have HOWN8 := Lib.hid hown1; have HFR8 := Lib.hid hfr1; have HAT8 := Lib.hid hat1; clear hown1 hfr1 hat1 hb8 c3)) | go_values | go_skip | go_guarded | go_step | go_upon)
            have hne : (Value.slice A2 n2 c2).ownBlock ≠ some nb := by
              intro e
              rcases HAT8.out nb e with h1 | h1
              · exact HRM.out.rv_ne h1
              · omega
            have hpn : ∀ k, (Value.slice A7 rs.length cap7).ownBlock = some k → pb ≠ k := fun k hk e => by
              subst e
              rcases HRM.out.recs.2 with ⟨e, _⟩ | ⟨g', cap', cur', e, _, hg', _⟩
              · rw [e] at hk; simp [Value.ownBlock] at hk
              · rw [e] at hk
                simp [Value.ownBlock] at hk
                rw [hk, HPB.out] at hg'
                simp at hg'
            have hpnb : pb ≠ nb := fun e => by
              have := HRM.out.blk
              rw [← e, HPB.out] at this
              simp at this
            have hblk := heap_setCell_six (i := 4) (.int .i64 ((a : Int) + (x.2 : Int))) (heap_setCell_six (i := 3) (.slice A2 n2 c2) HB8.out)
            have hown9 := ownsRow_setCell_other (ownsRow_setCell_other HOWN8.out (a := ⟨nb, 3, none⟩) hne (.slice A2 n2 c2)) (a := ⟨nb, 4, none⟩) hne (.int .i64 ((a : Int) + (x.2 : Int)))
            have hfr8 : Fr (fun k => k = nb ∨ (Value.slice A7 rs.length cap7).ownBlock = some k) w7 w8 := HFR8.out.mono (fun k hk => .inr hk)
            have hfr : Fr (fun k => k = nb ∨ (Value.slice A7 rs.length cap7).ownBlock = some k) w7 ((w8.setCell ⟨nb, 3, none⟩ (.slice A2 n2 c2)).setCell ⟨nb, 4, none⟩ (.int .i64 ((a : Int) + (x.2 : Int)))) :=
              (hfr8.setCell (p := ⟨nb, 3, none⟩) (.inl (.inl rfl)) _).setCell (p := ⟨nb, 4, none⟩) (.inl (.inl rfl)) _
            have hss : ((w8.setCell ⟨nb, 3, none⟩ (.slice A2 n2 c2)).setCell ⟨nb, 4, none⟩ (.int .i64 ((a : Int) + (x.2 : Int)))).heap.size = w8.heap.size := by simp
            generalize ((w8.setCell ⟨nb, 3, none⟩ (.slice A2 n2 c2)).setCell ⟨nb, 4, none⟩ (.int .i64 ((a : Int) + (x.2 : Int)))) = w9 at hblk hown9 hfr hss ⊢
            have hEb := HRM.out.fb
            have hEr := HRM.out.fr
            have hws := HM.out.below.size
            have hbel : Below w.heap.size w w9 := HM.out.below.trans (hfr.below hws (fun k hk => by
              rcases hk with hk | hk
              · rw [hk]; exact hEb.1
              · exact (hEr k hk).1))
            have hs9 := hfr.size
            have hNN : N (rs ++ [x.1]) (a + x.2) = { N rs a with recs := rs ++ [x.1], at_ := a + x.2 } := by rw [HN.out]
            have hlg : OwnR w w9 nb (N (rs ++ [x.1]) (a + x.2)) := by
              refine ⟨hbel, .slice A2 n2 c2, ?_, ?_, ⟨hEb.1, by omega⟩, fun k hk => ?_, fun k hk => hk.2⟩
              · rw [hblk, hNN]; simp [rlogCells]
              · rw [hNN]; exact hown9
              · have h5 := (HOWN8.out.lt k hk).2
                rcases HAT8.out k hk with h1 | h1
                · exact ⟨(hEr k h1).1, by omega⟩
                · exact ⟨by omega, by omega⟩
            have hpb9 := (hfr.block pb (block_lt HPB.out) (fun h => h.elim hpnb (fun h => hpn pb h rfl))).trans HPB.out
            obtain ⟨f', hf', hmo⟩ := LSt.more_some HRT.out.symm (f := f) (by rw [HMB.out.2]; exact hf)
            rw [HMB.out.2] at hf'
            refine ⟨⟨rs ++ [x.1], a + x.2, rfl, by simp, hxle.2, by simp; omega, Lib.hid hlg, Lib.hid hpb9, f', hf', Lib.hid ?_⟩, ?_⟩
            · rw [← hmo]; exact hmore.out
            · exact meas_go half a x.2 hxle.1 hxle.2
    · obtain rfl : hh = 2 := by omega
      have HE := Lib.hid HM.out
      clear hlt
      go_wp2_with fail
      go_ret
      exact ⟨ob, rfl, HE.out⟩
end Go.Proofs.YtbdhicjebeoakaaDoor
