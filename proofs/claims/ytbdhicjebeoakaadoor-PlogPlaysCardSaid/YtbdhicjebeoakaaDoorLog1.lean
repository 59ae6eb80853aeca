/- The log in memory; where a half begins; the text that stands at a place (Next over the closure that reads the disk). -/
import Derived.Test.YtbdhicjebeoakaaDoorSame
import Derived.Test.YtbdhicjebeoakaaDoorApp
import Derived.Test.YtbdhicjebeoakaaDoorDisk6
set_option linter.unusedVariables false
set_option linter.unusedSimpArgs false
namespace Go.Proofs.YtbdhicjebeoakaaDoor
open Go.RowKit

/-- A log, but for its disk. -/
structure LSt where
  base : Nat
  half : Nat
  stamp : Nat
  gen : Nat
  at_ : Nat
  first : List UInt8
  recs : List (List UInt8)
def LSt.start (L : LSt) (gen : Int) : Nat := if gen % 2 = 1 then L.base else L.base + L.half
def readF (d : DSt) (j : Int) : List UInt8 := (d.read j).1
/-- The text at a place of a gen's half. -/
def LSt.text (L : LSt) (d : DSt) (gen at_ no : Int) : Option (List UInt8 × Nat) := nextAll (readF d) ((L.start gen : Int) + at_) ((L.start gen : Int) + L.half) gen no

def logCells (db : Nat) (rv : Value) (L : LSt) : Array Value :=
  #[.pointer (some ⟨db, 0, none⟩), .int .i64 (L.base : Int), .int .i64 (L.half : Int), .int .u64 (L.stamp : Int), .int .i64 (L.gen : Int), .int .i64 (L.at_ : Int), .string ⟨L.first.toArray⟩, rv]
structure LMem (w : World) (F : Nat → Prop) (lb db : Nat) (rv : Value) (L : LSt) : Prop where
  blk : w.heap[lb]? = some (.cells (logCells db rv L) 103 (0, 0))
  recs : OwnStrs 0 w rv L.recs
  fb : F lb
  fr : ∀ k, rv.ownBlock = some k → F k
  bd : ∀ k, F k → k < w.heap.size
def IsLog (w : World) (F : Nat → Prop) (lb db : Nat) (L : LSt) : Prop := ∃ rv, LMem w F lb db rv L
theorem LMem.frame {w w' : World} {F G : Nat → Prop} {lb db : Nat} {rv : Value} {L : LSt} (h : LMem w F lb db rv L) (hf : Fr G w w') (hd : ∀ k, F k → ¬ G k) : LMem w' F lb db rv L where
  blk := (hf.block lb (h.bd lb h.fb) (hd lb h.fb)).trans h.blk
  recs := by
    refine ⟨h.recs.1, ?_⟩
    rcases h.recs.2 with hn | ⟨g, cap, cur, he, hb, hg, rest⟩
    · exact .inl hn
    · have hF : F g := h.fr g (by rw [he]; rfl)
      exact .inr ⟨g, cap, cur, he, hb, (hf.block g (h.bd g hF) (hd g hF)).trans hg, rest⟩
  fb := h.fb
  fr := h.fr
  bd := fun k hk => Nat.lt_of_lt_of_le (h.bd k hk) hf.size
theorem LMem.grow {w : World} {F G : Nat → Prop} {lb db : Nat} {rv : Value} {L : LSt} (h : LMem w F lb db rv L) (hg : ∀ k, F k → G k) (hG : ∀ k, G k → k < w.heap.size) : LMem w G lb db rv L :=
  ⟨h.blk, h.recs, hg _ h.fb, fun k hk => hg _ (h.fr k hk), hG⟩
theorem IsLog.frame {w w' : World} {F G : Nat → Prop} {lb db : Nat} {L : LSt} (h : IsLog w F lb db L) (hf : Fr G w w') (hd : ∀ k, F k → ¬ G k) : IsLog w' F lb db L := by
  obtain ⟨rv, h⟩ := h
  exact ⟨rv, h.frame hf hd⟩
theorem IsLog.grow {w : World} {F G : Nat → Prop} {lb db : Nat} {L : LSt} (h : IsLog w F lb db L) (hg : ∀ k, F k → G k) (hG : ∀ k, G k → k < w.heap.size) : IsLog w G lb db L := by
  obtain ⟨rv, h⟩ := h
  exact ⟨rv, h.grow hg hG⟩
theorem IsLog.bd {w : World} {F : Nat → Prop} {lb db : Nat} {L : LSt} (h : IsLog w F lb db L) : ∀ k, F k → k < w.heap.size := by obtain ⟨_, h⟩ := h; exact h.bd
theorem IsLog.fb {w : World} {F : Nat → Prop} {lb db : Nat} {L : LSt} (h : IsLog w F lb db L) : F lb := by obtain ⟨_, h⟩ := h; exact h.fb
theorem IsLog.below {w w' : World} {F : Nat → Prop} {lb db : Nat} {L : LSt} (h : IsLog w F lb db L) (hb : Below w.heap.size w w') : IsLog w' F lb db L :=
  h.frame (G := fun _ => False) (Fr.of_below hb) (fun _ _ h => h)
theorem LMem.below {w w' : World} {F : Nat → Prop} {lb db : Nat} {rv : Value} {L : LSt} (h : LMem w F lb db rv L) (hb : Below w.heap.size w w') : LMem w' F lb db rv L :=
  h.frame (G := fun _ => False) (Fr.of_below hb) (fun _ _ h => h)
theorem LMem.rv_ne {w : World} {F : Nat → Prop} {lb db : Nat} {rv : Value} {L : LSt} (h : LMem w F lb db rv L) : rv.ownBlock ≠ some lb := by
  rcases h.recs.2 with ⟨rfl, _⟩ | ⟨g, cap, cur, rfl, _, hg, _⟩
  · simp [Value.ownBlock]
  · simp [Value.ownBlock, block_ne hg h.blk (by decide)]
theorem LMem.cells {w : World} {F : Nat → Prop} {lb db : Nat} {rv : Value} {L : LSt} (h : LMem w F lb db rv L) :
    w.cell? ⟨lb, 0, none⟩ = some (.pointer (some ⟨db, 0, none⟩)) ∧ w.cell? ⟨lb, 1, none⟩ = some (.int .i64 (L.base : Int)) ∧ w.cell? ⟨lb, 2, none⟩ = some (.int .i64 (L.half : Int)) ∧
    w.cell? ⟨lb, 3, none⟩ = some (.int .u64 (L.stamp : Int)) ∧ w.cell? ⟨lb, 4, none⟩ = some (.int .i64 (L.gen : Int)) ∧ w.cell? ⟨lb, 5, none⟩ = some (.int .i64 (L.at_ : Int)) ∧
    w.cell? ⟨lb, 6, none⟩ = some (.string ⟨L.first.toArray⟩) ∧ w.cell? ⟨lb, 7, none⟩ = some rv := by
  have := block_cell h.blk
  exact ⟨this 0, this 1, this 2, this 3, this 4, this 5, this 6, this 7⟩

theorem nextL_le {gen no : Int} : ∀ (l : List (List UInt8)) (i : Nat) (acc : List UInt8) (f : Pc) (r : List UInt8 × Nat), nextL gen no l i acc f = some r → i < r.2 ∧ r.2 ≤ i + l.length
  | [], i, acc, f, r, h => by simp [nextL] at h
  | s :: t, i, acc, f, r, h => by
    rcases hp : readR s with _ | p
    · rw [nextL_none hp] at h; cases h
    · by_cases hb : p.gen = gen ∧ p.no = no ∧ partB p (if i = 0 then p else f) (i : Int) = true
      · by_cases ht : (i : Int) + 1 = p.total
        · rw [nextL_end hp hb ht] at h
          have := Option.some.inj h
          subst this
          simp
        · rw [nextL_on hp hb ht] at h
          have := nextL_le t _ _ _ r h
          simp only [List.length_cons]
          omega
      · rw [nextL_bad hp hb] at h; cases h
theorem nextAll_le {F : Int → List UInt8} {a e gen no : Int} {r : List UInt8 × Nat} (h : nextAll F a e gen no = some r) : 0 < r.2 ∧ r.2 ≤ room a e := by
  have := nextL_le _ _ _ _ r h
  simpa [rowOf] using this

theorem lstart_any {w : World} {F : Nat → Prop} {lb db : Nat} {L : LSt} (h : IsLog w F lb db L) (gen : Int) (hl : L.base + L.half ≤ 1000000) :
    Calls Tryd.prog 74 #[.pointer (some ⟨lb, 0, none⟩), .int .i64 gen] w fun e w' => e = .returned (.int .i64 (L.start gen : Int)) ∧ Below w.heap.size w w' := by
  obtain ⟨rv, h⟩ := h
  obtain ⟨-, c1, c2, -⟩ := h.cells
  clear h
  have e2 := and1
  by_cases hg : gen % 2 = 1
  · have hb : (gen % 2 == 1) = true := by rw [beq_iff_eq]; exact hg
    have hs : Hid (L.start gen = L.base) := Lib.hid (if_pos hg)
    clear hg
    go_enter Tryd.func74, Tryd.ntmps74
    go_wp2
    go_ret
    exact ⟨ret_int (by rw [hs.out]), Below.refl _ _⟩
  · have hb : (gen % 2 == 1) = false := by rw [beq_eq_false_iff_ne]; exact hg
    have hs : Hid (L.start gen = L.base + L.half) := Lib.hid (if_neg hg)
    clear hg
    go_enter Tryd.func74, Tryd.ntmps74
    go_wp2_with fail
    go_quiet (fail)
    go_wp2_with fail
    go_ret
    exact ⟨ret_int (by rw [hs.out]; rfl), below_drewN (Below.refl _ _) _⟩
theorem log_reads {w : World} {F G : Nat → Prop} {lb db bx : Nat} {L : LSt} {d : DSt} (h : IsLog w F lb db L) (hd : IsDisk w G db d) (hx : w.cell? ⟨bx, 0, none⟩ = some (.pointer (some ⟨lb, 0, none⟩))) (lo hi : Int) :
    ReadsAs 84 #[.pointer (some ⟨bx, 0, none⟩)] (readF d) lo hi w := by
  intro W j _ _ hb
  have HL := Lib.hid (h.below hb)
  have HD := Lib.hid (hd.below hb)
  have hx' := (hb.cell (p := ⟨bx, 0, none⟩) (World.block_lt_of_cell? _ _ hx)).trans hx
  clear h hd hx hb
  obtain ⟨rv, hm⟩ := HL.out
  obtain ⟨c0, -⟩ := hm.cells
  clear hm HL
  show Calls Tryd.prog 84 #[.int .i64 j, .pointer (some ⟨bx, 0, none⟩)] W _
  go_enter Tryd.func84, Tryd.ntmps84
  go_wp2_with fail
  refine (read_any HD.out j).mono ?_
  rintro e w1 ⟨rfl, hb1⟩
  go_wp2_with fail
  go_ret
  exact ⟨rfl, hb1⟩
set_option maxRecDepth 20000 in
set_option maxHeartbeats 1000000 in
theorem lnext_any {w : World} {F G : Nat → Prop} {lb db : Nat} {L : LSt} {d : DSt} (h : IsLog w F lb db L) (hd : IsDisk w G db d) (gen no : Int) (at_ : Nat) (hl : L.base + 2 * L.half ≤ 1000000) (ha : at_ ≤ L.half) :
    Calls Tryd.prog 75 #[.pointer (some ⟨lb, 0, none⟩), .int .i64 gen, .int .i64 (at_ : Int), .int .i64 no] w fun e w' => e = .returned (nextV (at_ : Int) (L.text d gen at_ no)) ∧ Below w.heap.size w w' := by
  have HL := Lib.hid h
  have HD := Lib.hid hd
  have HWF := Lib.hid hd.wf
  clear h hd
  obtain ⟨R, hR⟩ : ∃ R, R = L.text d gen at_ no := ⟨_, rfl⟩
  rw [← hR]
  have HR := Lib.hid hR
  clear hR
  go_enter Tryd.func75, Tryd.ntmps75
  go_wp2_with fail
  have HL := Lib.hid (HL.out.below ((Below.refl _ w).alloc (Nat.le_refl _) (.cells #[.pointer (some ⟨lb, 0, none⟩)] 53)))
  have hbx : (w.alloc (.cells #[.pointer (some ⟨lb, 0, none⟩)] 53)).cell? ⟨w.heap.size, 0, none⟩ = some (.pointer (some ⟨lb, 0, none⟩)) := block_cell (heap_alloc_new _ _) 0
  have HB0 := Lib.hid ((Below.refl w.heap.size w).alloc (Nat.le_refl _) (.cells #[.pointer (some ⟨lb, 0, none⟩)] 53))
  have HD := Lib.hid (HD.out.below HB0.out)
  refine (lstart_any HL.out gen (by omega)).mono ?_
  rintro e w1 ⟨rfl, hb1⟩
  have hx : w1.cell? ⟨w.heap.size, 0, none⟩ = some (.pointer (some ⟨lb, 0, none⟩)) := (hb1.cell (p := ⟨w.heap.size, 0, none⟩) (World.block_lt_of_cell? _ _ hbx)).trans hbx
  have HL := Lib.hid (HL.out.below hb1)
  have HD := Lib.hid (HD.out.below hb1)
  have HB := Lib.hid (HB0.out.trans (hb1.mono HB0.out.size))
  clear hb1 hbx
  obtain ⟨rv, hm⟩ := HL.out
  obtain ⟨-, -, c2, -⟩ := hm.cells
  clear hm
  have HR' := HR.out
  unfold LSt.text at HR'
  have hst : L.start gen ≤ L.base + L.half := by unfold LSt.start; split <;> omega
  generalize L.start gen = st at HR' hst ⊢
  have HR := Lib.hid HR'
  clear HR'
  have e1 : wrap64 ((st : Int) + (at_ : Int)) = (st : Int) + at_ := by unfold wrap64; omega
  have e2 : wrap64 ((st : Int) + (L.half : Int)) = (st : Int) + L.half := by unfold wrap64; omega
  go_wp2_with fail
  have hrd := log_reads HL.out HD.out hx ((st : Int) + at_) ((st : Int) + L.half)
  have hlen : ∀ j, (st : Int) + at_ ≤ j → j < (st : Int) + L.half → (readF d j).length ≤ 9223372036854775807 := by
    intro j _ _
    have hw := HWF.out
    unfold readF DSt.read
    by_cases hc : d.check j = 0
    · obtain ⟨_, h2, h3⟩ := DSt.check_zero hc
      rw [if_neg (by simpa using hc)]
      have := lastOf_len j.toNat _ d.cache (d.kept.getD j.toNat []) hw.fits (hw.all.getD (by omega))
      rw [this]; decide
    · rw [if_pos hc]; simp
  have := next_any 84 #[.pointer (some ⟨w.heap.size, 0, none⟩)] (readF d) ((st : Int) + at_) ((st : Int) + L.half) gen no w1 (enters_of Tryd.func84 (by kernel_rfl) rfl) hrd hlen (by omega) (by omega)
  rw [← HR.out] at this
  refine this.mono ?_
  rintro e w2 ⟨rfl, hb2⟩
  have HB := Lib.hid (HB.out.trans (hb2.mono HB.out.size))
  clear this hrd hlen hb2
  rcases R with _ | r
  · simp only [nextV]
    go_wp2_with fail
    go_ret3
    refine ⟨?_, HB.out⟩
    show Ending.returned (.tuple #[.string ⟨#[]⟩, .int .i64 ((st : Int) + at_ - st), .bool false]) = .returned (.tuple #[.string ⟨#[]⟩, .int .i64 (at_ : Int), .bool false])
    rw [show (st : Int) + at_ - st = at_ by omega]
  · simp only [nextV]
    have e3 : wrap64 ((st : Int) + at_ + r.2 - (st : Int)) = (at_ : Int) + r.2 := by
      have := nextAll_le (HR.out).symm
      unfold room at this
      rw [if_pos (by omega)] at this
      unfold wrap64; omega
    have E3 := Lib.hid e3
    clear e3
    go_wp2_with fail
    go_ret3
    refine ⟨?_, HB.out⟩
    show Ending.returned (.tuple #[.string ⟨r.1.toArray⟩, .int .i64 (wrap64 ((st : Int) + at_ + r.2 - st)), .bool true]) = .returned (.tuple #[.string ⟨r.1.toArray⟩, .int .i64 ((at_ : Int) + r.2), .bool true])
    rw [E3.out]
end Go.Proofs.YtbdhicjebeoakaaDoor
