/- What lockagelaw05.PlogPlays needs besides: trees of operations that are guarded; the calls in the shape that its walk wants; the reference's Open of what is kept. -/
import Derived.Test.YtbdhicjebeoakaaDoorROpen
import Derived.Test.YtbdhicjebeoakaaDoorTree
import Derived.Test.YtbdhicjebeoakaaDoorCrashW
set_option linter.unusedVariables false
set_option linter.unusedSimpArgs false
namespace Go.Proofs.YtbdhicjebeoakaaDoor
open Go.RowKit

section
variable {P : Program} {ops : Array Oper} {Q : Exit → Act → World → Prop} {S : World → Prop} {Lq : Act → World → Prop} {o u : Oper} {t s : TrO} {a : Act} {w : World}
theorem wpTr_skip (hg : Region.wanted o (yielded ops a.tmps) = false) (h : wpTr P ops Q Lq t S (a.put o.dst undef) w) : wpTr P ops Q Lq (.take o t) S a w := ⟨undef, .inr ⟨hg, rfl⟩, h⟩
theorem wpOne_met {K : Act → World → Prop} (hg : Region.wanted o (yielded ops a.tmps) = true) (h : o.wp P a w K Q) : wpOne P ops Q o K a w := by
  unfold wpOne
  rw [if_pos hg]
  exact h
theorem wpOne_unmet {K : Act → World → Prop} (hg : Region.wanted o (yielded ops a.tmps) = false) (h : K (a.put o.dst undef) w) : wpOne P ops Q o K a w := by
  unfold wpOne
  rw [if_neg (by rw [hg]; simp)]
  exact h
end
section
variable {T : World → (Nat → Prop) → Prop} {W w : World} {lb db rb : Nat} {d : DSt} {L M : LSt} {k : Nat}
theorem duo_append2 (h : Duo T W w lb db L d) (ht : Framed T) (hc : Calm L d k) (hk : k ≤ 1000) (hst : L.stamp + 1 < 18446744073709551616) (r a : List UInt8) (hr : r.length ≤ 1000000) (ha : a.length ≤ 1000000) :
    Calls Tryd.prog 32 #[.pointer (some ⟨lb, 0, none⟩), .string ⟨r.toArray⟩, .string ⟨a.toArray⟩] w fun e w' =>
      ∃ x d', e = .returned (.int .i64 (L.spec r a).1) ∧ Duo T W w' lb db { (L.spec r a).2 with stamp := x } d' ∧ Calm { (L.spec r a).2 with stamp := x } d' (k + 1) ∧ x ≤ L.stamp + 1 ∧ d'.kept.length = d.kept.length :=
  (duo_append h ht hc hk hst r a hr ha).mono fun e w' ⟨L', d', h1, h2, h3, h4, h5, h6, h7⟩ => by
    refine ⟨L'.stamp, d', h1, ?_, ?_, h6, h7⟩
    · rw [← h4]; exact h2
    · rw [← h4]; exact h3
theorem proom (h : Duo T W w lb db L d) (hg : 0 < L.gen) (ha : L.at_ ≤ L.half) (hh : L.half ≤ 2000) : Calls Tryd.prog 36 #[.pointer (some ⟨lb, 0, none⟩)] w fun e w' => e = .returned (.int .i64 ((L.half : Int) - (L.at_ : Int))) ∧ Below w.heap.size w w' := by
  obtain ⟨F, hl⟩ := h.log
  refine (room_any hl ha (by omega)).mono ?_
  rintro e w' ⟨rfl, hb⟩
  refine ⟨ret_int ?_, hb⟩
  unfold LSt.room
  rw [if_neg (by omega)]
  omega
theorem Duo.rcells (h : Duo (TR rb M) W w lb db L d) : ∃ A cap, w.cell? ⟨rb, 0, none⟩ = some (.int .i64 (M.gen : Int)) ∧ w.cell? ⟨rb, 2, none⟩ = some (.string ⟨M.first.toArray⟩) ∧ w.cell? ⟨rb, 3, none⟩ = some (.slice A M.recs.length cap) ∧ w.cell? ⟨rb, 4, none⟩ = some (.int .i64 (M.at_ : Int)) ∧
    StrsAt w (.slice A M.recs.length cap) M.recs := by
  obtain ⟨E, _, rv, hm⟩ := h.rest
  obtain ⟨A, cap, rfl, -, -⟩ := own_form1 hm.recs
  exact ⟨A, cap, hm.cells.1, hm.cells.2.2.1, hm.cells.2.2.2.1, hm.cells.2.2.2.2, hm.recs.at⟩
end
/-! ### The sectors of both halves, alone -/
theorem halfL_halfL (K : List (List UInt8)) (b n st half : Nat) (h : st + half ≤ n) (hf : b + n ≤ K.length) : halfL (halfL K b n) st half = halfL K (b + st) half := by
  refine getD_ext ?_ (fun j hj => ?_)
  · rw [halfL_length (by rw [halfL_length hf]; exact h), halfL_length (by omega)]
  · have hj' : j < half := by
      rw [halfL_length (by rw [halfL_length hf]; exact h)] at hj
      exact hj
    rw [halfL_getD _ _ _ _ hj', halfL_getD _ _ _ _ (by omega), halfL_getD _ _ _ _ hj']
    congr 1
    omega
theorem LInv.cut {K : List (List UInt8)} {S : Nat} {L : LSt} (h : LInv K S L) : LInv (halfL K L.base (2 * L.half)) S { L with base := 0 } := by
  have hf := h.fit
  have key : ∀ g : Int, halfL (halfL K L.base (2 * L.half)) (({ L with base := 0 } : LSt).start g) L.half = halfL K (L.start g) L.half := fun g => by
    have e : L.base + ({ L with base := 0 } : LSt).start g = L.start g := by
      unfold LSt.start
      split
      · rfl
      · simp only; omega
    rw [halfL_halfL _ _ _ _ _ (by have := ({ L with base := 0 } : LSt).start_le g; simp only at this; omega) hf, e]
  refine ⟨?_, h.pos, ?_, h.le, h.none0, ?_, ?_, ?_, ?_, ?_, ?_⟩
  · rw [halfL_length hf]; simp only; omega
  · intro j hj
    rw [halfL_length hf] at hj
    rw [halfL_getD _ _ _ _ hj]
    exact h.low _ (by omega)
  · simp only; rw [key]; exact h.gens
  · simp only; rw [key]; exact h.cur
  · simp only; rw [key]; exact h.stop
  · simp only; rw [key]; exact h.nos
  · simp only; rw [key]; exact h.ogens
  · simp only; rw [key]; exact h.onone
theorem LOk.rst {L : LSt} {d : DSt} (h : LOk L d) : rst (halfL d.kept L.base (2 * L.half)) L.half 2 = { L with base := 0, stamp := 0 } := by
  rw [rst_two]
  have := h.inv.cut.opened (d := dk (halfL d.kept L.base (2 * L.half))) rfl rfl 0
  exact this
end Go.Proofs.YtbdhicjebeoakaaDoor
