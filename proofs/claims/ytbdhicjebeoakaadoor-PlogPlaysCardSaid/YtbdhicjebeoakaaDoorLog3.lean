/- The log's small methods; Records; Open. -/
import Derived.Test.YtbdhicjebeoakaaDoorLog2
set_option linter.unusedVariables false
set_option linter.unusedSimpArgs false
namespace Go.Proofs.YtbdhicjebeoakaaDoor
open Go.RowKit

theorem base_any {w : World} {F : Nat → Prop} {lb db : Nat} {L : LSt} (h : IsLog w F lb db L) :
    Calls Tryd.prog 33 #[.pointer (some ⟨lb, 0, none⟩)] w fun e w' => e = .returned (.string ⟨L.first.toArray⟩) ∧ w' = w := by
  obtain ⟨rv, h⟩ := h
  obtain ⟨-, -, -, -, -, -, c6, -⟩ := h.cells
  clear h
  go_enter Tryd.func33, Tryd.ntmps33
  go_wp2
  go_ret
  exact ⟨rfl, rfl⟩
theorem base_nil (w : World) :
    Calls Tryd.prog 33 #[.pointer none] w fun e w' => e = .returned (.string ⟨#[]⟩) ∧ w' = w := by
  go_enter Tryd.func33, Tryd.ntmps33
  go_wp2
  go_ret
  exact ⟨rfl, rfl⟩
theorem gen_any {w : World} {F : Nat → Prop} {lb db : Nat} {L : LSt} (h : IsLog w F lb db L) :
    Calls Tryd.prog 35 #[.pointer (some ⟨lb, 0, none⟩)] w fun e w' => e = .returned (.int .i64 (L.gen : Int)) ∧ w' = w := by
  obtain ⟨rv, h⟩ := h
  obtain ⟨-, -, -, -, c4, -⟩ := h.cells
  clear h
  go_enter Tryd.func35, Tryd.ntmps35
  go_wp2
  go_ret
  exact ⟨rfl, rfl⟩
theorem gen_nil (w : World) :
    Calls Tryd.prog 35 #[.pointer none] w fun e w' => e = .returned (.int .i64 0) ∧ w' = w := by
  go_enter Tryd.func35, Tryd.ntmps35
  go_wp2
  go_ret
  exact ⟨rfl, rfl⟩
/-- How many sectors are left. -/
def LSt.room (L : LSt) : Nat := if L.gen = 0 then 0 else L.half - L.at_
theorem room_any {w : World} {F : Nat → Prop} {lb db : Nat} {L : LSt} (h : IsLog w F lb db L) (ha : L.at_ ≤ L.half) (hh : L.half ≤ 1000000) :
    Calls Tryd.prog 36 #[.pointer (some ⟨lb, 0, none⟩)] w fun e w' => e = .returned (.int .i64 (L.room : Int)) ∧ Below w.heap.size w w' := by
  obtain ⟨rv, h⟩ := h
  obtain ⟨-, -, c2, -, c4, c5, -⟩ := h.cells
  clear h
  by_cases hg : L.gen = 0
  · have hr : L.room = 0 := if_pos hg
    have hgb : (((L.gen : Nat) : Int) == 0) = true := by rw [beq_iff_eq]; omega
    rw [hr]
    clear hr hg
    go_enter Tryd.func36, Tryd.ntmps36
    go_wp2
    go_ret
    exact ⟨rfl, Below.refl _ _⟩
  · have hr : Hid (L.room = L.half - L.at_) := Lib.hid (if_neg hg)
    have hgb : (((L.gen : Nat) : Int) == 0) = false := by rw [beq_eq_false_iff_ne]; omega
    clear hg
    go_enter Tryd.func36, Tryd.ntmps36
    go_wp2_with fail
    go_quiet (fail)
    go_wp2_with fail
    go_ret
    exact ⟨ret_int (by rw [hr.out]; omega), below_drewN (Below.refl _ _) _⟩
theorem room_nil (w : World) :
    Calls Tryd.prog 36 #[.pointer none] w fun e w' => e = .returned (.int .i64 0) ∧ w' = w := by
  go_enter Tryd.func36, Tryd.ntmps36
  go_wp2
  go_ret
  exact ⟨rfl, rfl⟩
theorem sectors_any (s : ByteArray) (w : World) (hs : s.size ≤ 1000000000) :
    Calls Tryd.prog 37 #[.string s] w fun e w' => e = .returned (.int .i64 (countOf s.size : Int)) ∧ w' = w := by
  go_enter Tryd.func37, Tryd.ntmps37
  go_wp2_with fail
  refine (count_any _ w (by omega) (by omega)).mono ?_
  rintro e w' ⟨rfl, rfl⟩
  rw [Int.toNat_natCast]
  go_wp2_with fail
  go_ret
  exact ⟨rfl, rfl⟩
end Go.Proofs.YtbdhicjebeoakaaDoor
set_option linter.unusedVariables false
set_option linter.unusedSimpArgs false
namespace Go.Proofs.YtbdhicjebeoakaaDoor
open Go.RowKit

/-- What Open makes. -/
def LSt.opened (base half boot : Nat) (d : DSt) : LSt := (((⟨base, half, boot * 4294967296, 0, 0, [], []⟩ : LSt).scan d 1).scan d 0)
theorem LSt.scan_base (L : LSt) (d : DSt) (k : Int) : (L.scan d k).base = L.base ∧ (L.scan d k).half = L.half ∧ (L.scan d k).stamp = L.stamp := by
  unfold LSt.scan
  split
  · exact ⟨rfl, rfl, rfl⟩
  · split
    · exact ⟨rfl, rfl, rfl⟩
    · split
      · exact ⟨rfl, rfl, rfl⟩
      · exact ⟨rfl, rfl, rfl⟩
theorem open_nil (base half boot : Int) (w : World) :
    Calls Tryd.prog 30 #[.pointer none, .int .i64 base, .int .i64 half, .int .u32 boot] w fun e w' => e = .returned (.tuple #[.pointer none, .int .i64 8]) ∧ w' = w := by
  go_enter Tryd.func30, Tryd.ntmps30
  go_wp2
  go_ret2
  exact ⟨rfl, rfl⟩
/-- May it be opened? -/
def openOk (d : DSt) (base half : Int) : Bool := decide (1 ≤ half ∧ half ≤ 2000 ∧ 0 ≤ base ∧ base ≤ d.kept.length - 2 * half)
theorem open_arg {w : World} {G : Nat → Prop} {db : Nat} {d : DSt} (hd : IsDisk w G db d) (base half boot : Int) (hb : -9223372036854775808 ≤ base ∧ base ≤ 9223372036854775807) (hh : -9223372036854775808 ≤ half ∧ half ≤ 9223372036854775807) (ho : openOk d base half = false) :
    Calls Tryd.prog 30 #[.pointer (some ⟨db, 0, none⟩), .int .i64 base, .int .i64 half, .int .u32 boot] w fun e w' => e = .returned (.tuple #[.pointer none, .int .i64 1]) ∧ w' = w := by
  have HD := Lib.hid hd
  have hk1 := hd.wf.pos
  have hk2 := hd.wf.most
  have HL := Lib.hid (len_any hd)
  clear hd
  have ho' := of_decide_eq_false ho
  clear ho
  by_cases h1 : half < 1
  · go_enter Tryd.func30, Tryd.ntmps30
    go_wp2
    go_ret2
    exact ⟨rfl, rfl⟩
  by_cases h2 : 2000 < half
  · go_enter Tryd.func30, Tryd.ntmps30
    go_wp2
    go_ret2
    exact ⟨rfl, rfl⟩
  by_cases h3 : base < 0
  · go_enter Tryd.func30, Tryd.ntmps30
    go_wp2
    go_ret2
    exact ⟨rfl, rfl⟩
  have h4 : (d.kept.length : Int) - 2 * half < base := by omega
  clear ho'
  generalize d.kept.length = n at *
  go_enter Tryd.func30, Tryd.ntmps30
  go_wp2_with fail
  refine HL.out.mono ?_
  rintro e w' ⟨rfl, rfl⟩
  go_wp2_with fail
  go_ret2
  exact ⟨rfl, rfl⟩
theorem clone_any {w : World} {v : Value} {l : List (List UInt8)} (h : StrsAt w v l) (hl : l.length ≤ 1000000000) :
    Calls Tryd.prog 62 #[v] w fun e w' => ∃ v', e = .returned v' ∧ OwnStrs w.heap.size w' v' l ∧ Below w.heap.size w w' := by
  have h' := h
  obtain ⟨A, cap, rfl, hle, hr⟩ := h'
  have q22 : ∀ (w : World) (a : Option Addr) (n c n' c' : Nat), (binOp .eql 41 (.slice a n c) (.slice none n' c')).run Tryd.prog w = .ok (.bool a.isNone) w := fun w a n c n' c' => Lib.run_eql_slice_nil w _ _ a n c n' c' Tryd.underlying41
  rcases A with _ | ad
  · have hn : l = [] := by
      cases l with
      | nil => rfl
      | cons x r => obtain ⟨g, o, e, _⟩ := hr 0 x rfl; cases e
    subst hn
    clear hr h
    go_enter Tryd.func62, Tryd.ntmps62
    go_wp2
    go_ret
    exact ⟨_, rfl, OwnStrs.nil _ _, Below.refl _ _⟩
  · have H := Lib.hid h
    clear hr h
    generalize hln : l.length = n at *
    go_enter Tryd.func62, Tryd.ntmps62
    go_upto_region 3 with (fail)
    have hmade : OwnStrs w.heap.size (w.alloc (.cells #[] 9)) (.slice (some ⟨w.heap.size, 0, none⟩) 0 0) [] := World.ownsRow_made w #[] 0 (Nat.le_refl _) (Nat.zero_le _) rfl
    have hat := H.out.on ((Below.refl w.heap.size w).alloc (Nat.le_refl _) (.cells #[] 9))
    have HMADE := Lib.hid hmade
    have HAT := Lib.hid hat
    clear hmade hat
    repeat (first | (go_big_may; first | ((with_reducible refine wpList_append_texts rfl _ _ rfl w.heap.size (.slice (some ⟨w.heap.size, 0, none⟩) 0 0) (.slice (some ad) n cap) [] l ?_ HMADE.out ?_ HAT.out ?_ ?_ ?_); (· rfl); (· rfl); (· simp; omega); (· simp); intro v' w2 hown1 hg1; have HOWN1 := Lib.hid hown1; have HG1 := Lib.hid hg1; clear hown1 hg1)) | go_values | go_skip | go_guarded | go_step | go_upon)
    go_ret
    exact ⟨_, rfl, HOWN1.out, ((Below.refl w.heap.size w).alloc (Nat.le_refl _) _).trans HG1.out⟩
theorem records_any {w : World} {F : Nat → Prop} {lb db : Nat} {L : LSt} (h : IsLog w F lb db L) (hl : L.recs.length ≤ 1000000000) :
    Calls Tryd.prog 34 #[.pointer (some ⟨lb, 0, none⟩)] w fun e w' => ∃ v', e = .returned v' ∧ OwnStrs w.heap.size w' v' L.recs ∧ Below w.heap.size w w' := by
  obtain ⟨rv, h⟩ := h
  have H := Lib.hid (clone_any h.recs.at hl)
  obtain ⟨-, -, -, -, -, -, -, c7⟩ := h.cells
  obtain ⟨A, cap, rfl, -, -⟩ := own_form1 h.recs
  clear h
  go_enter Tryd.func34, Tryd.ntmps34
  go_wp2_with fail
  refine H.out.mono ?_
  rintro e w' ⟨v', rfl, ho, hb⟩
  go_wp2_with fail
  go_ret
  exact ⟨v', rfl, ho, hb⟩
theorem records_nil (w : World) :
    Calls Tryd.prog 34 #[.pointer none] w fun e w' => e = .returned (.slice none 0 0) ∧ w' = w := by
  go_enter Tryd.func34, Tryd.ntmps34
  go_wp2
  go_ret
  exact ⟨rfl, rfl⟩
theorem open_down {w : World} {G : Nat → Prop} {db : Nat} {d : DSt} (hd : IsDisk w G db d) (base half : Nat) (boot : Int) (h1 : 1 ≤ half) (h2 : half ≤ 2000) (h3 : base + 2 * half ≤ d.kept.length) (ho : d.off = true) :
    Calls Tryd.prog 30 #[.pointer (some ⟨db, 0, none⟩), .int .i64 (base : Int), .int .i64 (half : Int), .int .u32 boot] w fun e w' => e = .returned (.tuple #[.pointer none, .int .i64 5]) ∧ w' = w := by
  have hk2 := hd.wf.most
  have HL := Lib.hid (len_any hd)
  have HD := Lib.hid (down_any hd)
  rw [ho] at HD
  clear hd ho
  generalize d.kept.length = n at *
  go_enter Tryd.func30, Tryd.ntmps30
  go_wp2_with fail
  refine HL.out.mono ?_
  rintro e w' ⟨rfl, rfl⟩
  go_wp2_with fail
  refine HD.out.mono ?_
  rintro e w' ⟨rfl, rfl⟩
  go_wp2_with fail
  go_ret2
  exact ⟨rfl, rfl⟩
end Go.Proofs.YtbdhicjebeoakaaDoor
set_option linter.unusedVariables false
set_option linter.unusedSimpArgs false
namespace Go.Proofs.YtbdhicjebeoakaaDoor
open Go.RowKit

set_option maxRecDepth 20000 in
set_option maxHeartbeats 1000000 in
theorem open_ok {w : World} {G : Nat → Prop} {db : Nat} {d : DSt} (hd : IsDisk w G db d) (base half boot : Nat) (h1 : 1 ≤ half) (h2 : half ≤ 2000) (h3 : base + 2 * half ≤ d.kept.length) (hb : boot < 4294967296) (ho : d.off = false) :
    Calls Tryd.prog 30 #[.pointer (some ⟨db, 0, none⟩), .int .i64 (base : Int), .int .i64 (half : Int), .int .u32 (boot : Int)] w fun e w' =>
      ∃ lb, e = .returned (.tuple #[.pointer (some ⟨lb, 0, none⟩), .int .i64 0]) ∧ Below w.heap.size w w' ∧ IsLog w' (Ext (fun _ => False) w w') lb db (LSt.opened base half boot d) := by
  have hk2 := hd.wf.most
  have HL := Lib.hid (len_any hd)
  have HO := Lib.hid (down_any hd)
  rw [ho] at HO
  have HD := Lib.hid hd
  clear hd ho
  have hkl : ∃ n, n = d.kept.length := ⟨_, rfl⟩
  obtain ⟨n, hn⟩ := hkl
  rw [← hn] at hk2 h3 HL
  clear hn
  go_enter Tryd.func30, Tryd.ntmps30
  go_wp2_with fail
  refine HL.out.mono ?_
  rintro e w' ⟨rfl, rfl⟩
  go_wp2_with fail
  refine HO.out.mono ?_
  rintro e w' ⟨rfl, rfl⟩
  go_wp2_with fail
  obtain ⟨L0, hL0⟩ : ∃ L0 : LSt, L0 = ⟨base, half, boot * 4294967296, 0, 0, [], []⟩ := ⟨_, rfl⟩
  have hop : LSt.opened base half boot d = (L0.scan d 1).scan d 0 := by rw [hL0]; rfl
  have hsz : L0.base + 2 * L0.half ≤ 1000000 := by rw [hL0]; show base + 2 * half ≤ 1000000; omega
  have hB1 := (Below.refl w.heap.size w).alloc (Nat.le_refl _) (.cells #[.pointer (some ⟨db, 0, none⟩), .int .i64 (base : Int), .int .i64 (half : Int), .int .u64 ((boot : Int) * 4294967296), .int .i64 0, .int .i64 0, .string ⟨#[]⟩, .slice none 0 0] 103)
  have hlog1 : IsLog (w.alloc (.cells #[.pointer (some ⟨db, 0, none⟩), .int .i64 (base : Int), .int .i64 (half : Int), .int .u64 ((boot : Int) * 4294967296), .int .i64 0, .int .i64 0, .string ⟨#[]⟩, .slice none 0 0] 103)) (fun k => k = w.heap.size) w.heap.size db L0 := by
    refine ⟨.slice none 0 0, ?_, ?_, rfl, fun k hk => by simp [Value.ownBlock] at hk, fun k hk => ?_⟩
    · rw [heap_alloc_new, hL0]; simp [logCells]
    · rw [hL0]; exact World.ownsRow_nil _ _ _ _
    · have hk' : k = w.heap.size := hk
      rw [hk']; simp
  have hs1 : (w.alloc (.cells #[.pointer (some ⟨db, 0, none⟩), .int .i64 (base : Int), .int .i64 (half : Int), .int .u64 ((boot : Int) * 4294967296), .int .i64 0, .int .i64 0, .string ⟨#[]⟩, .slice none 0 0] 103)).heap.size = w.heap.size + 1 := by simp
  generalize (w.alloc (.cells #[.pointer (some ⟨db, 0, none⟩), .int .i64 (base : Int), .int .i64 (half : Int), .int .u64 ((boot : Int) * 4294967296), .int .i64 0, .int .i64 0, .string ⟨#[]⟩, .slice none 0 0] 103)) = w1 at hB1 hlog1 hs1 ⊢
  have hdk1 := HD.out.below hB1
  have hdis1 : ∀ k, k = w.heap.size → ¬ G k := fun k hk hg => by have := HD.out.bd k hg; omega
  have HB1 := Lib.hid hB1
  have HDK1 := Lib.hid hdk1
  have HOP := Lib.hid hop
  have HL0 := Lib.hid hL0
  have HLOG1 := Lib.hid hlog1
  have HDIS1 := Lib.hid hdis1
  clear hB1 hop hL0 hlog1 hdis1
  refine (scan_any HLOG1.out hdk1 HDIS1.out 1 hsz).mono ?_
  rintro e w2 ⟨rfl, hf2, hlog2⟩
  have hdk2 : IsDisk w2 G db d := HDK1.out.frame hf2 (fun k h1 h2 => HDIS1.out k h2 h1)
  have hdis2 : ∀ k, Ext (fun k => k = w.heap.size) w1 w2 k → ¬ G k := fun k hk hg => by
    have := HD.out.bd k hg
    rcases hk with hk | hk
    · omega
    · omega
  have hsz2 : (L0.scan d 1).base + 2 * (L0.scan d 1).half ≤ 1000000 := by
    have := L0.scan_base d 1
    rw [this.1, this.2.1]; exact hsz
  have HF2 := Lib.hid hf2
  have HLOG2 := Lib.hid hlog2
  have HDK2 := Lib.hid hdk2
  have HDIS2 := Lib.hid hdis2
  clear hf2 hlog2 hdk1 hdk2 hdis2
  go_wp2_with fail
  refine (scan_any HLOG2.out HDK2.out HDIS2.out 0 hsz2).mono ?_
  rintro e w3 ⟨rfl, hf3, hlog3⟩
  have HF3 := Lib.hid hf3
  have HLOG3 := Lib.hid hlog3
  clear hf3 hlog3
  go_wp2_with fail
  go_ret2
  have h12 := HF2.out.size
  have h23 := HF3.out.size
  have hfr : Fr (fun k => k = w.heap.size) w1 w3 := HF2.out.trans HF3.out
  refine ⟨w.heap.size, rfl, HB1.out.trans (hfr.below (by omega) (fun k hk => by have hk' : k = w.heap.size := hk; omega)), ?_⟩
  rw [HOP.out]
  refine HLOG3.out.grow (fun k hk => ?_) (fun k hk => ?_)
  · have := HLOG3.out.bd k hk
    rcases hk with (hk | hk) | hk
    · exact .inr ⟨by omega, this⟩
    · exact .inr ⟨by omega, this⟩
    · exact .inr ⟨by omega, this⟩
  · rcases hk with hk | hk
    · exact hk.elim
    · exact hk.2
end Go.Proofs.YtbdhicjebeoakaaDoor
