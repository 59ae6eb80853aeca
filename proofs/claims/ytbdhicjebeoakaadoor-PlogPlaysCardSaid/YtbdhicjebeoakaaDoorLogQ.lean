/- Plain laws of the log: runs of sectors, halves, torn writes; what a disk keeps for a log; Open reads it; Append keeps it, whether the power fails or not. -/
import Derived.Test.YtbdhicjebeoakaaDoorLog7
import Derived.Test.YtbdhicjebeoakaaDoorLayQ
set_option linter.unusedVariables false
set_option linter.unusedSimpArgs false
namespace Go.Proofs.YtbdhicjebeoakaaDoor

/-! ### A run -/
theorem getD_cons0 (s : List UInt8) (t : List (List UInt8)) : (s :: t).getD 0 [] = s := rfl
theorem getD_consS (s : List UInt8) (t : List (List UInt8)) (j : Nat) : (s :: t).getD (j + 1) [] = t.getD j [] := rfl
theorem getD_drop (l : List (List UInt8)) (a j : Nat) : (l.drop a).getD j [] = l.getD (a + j) [] := by
  simp [List.getD_eq_getElem?_getD, List.getElem?_drop]
theorem nextL_cases {gen no : Int} {s : List UInt8} {t : List (List UInt8)} {i : Nat} {acc : List UInt8} {f : Pc} {r : List UInt8 × Nat} (h : nextL gen no (s :: t) i acc f = some r) :
    ∃ p, readR s = some p ∧ p.gen = gen ∧ p.no = no ∧ partB p (if i = 0 then p else f) (i : Int) = true ∧
      (((i : Int) + 1 = p.total ∧ r = (acc ++ p.data, i + 1)) ∨ (¬ (i : Int) + 1 = p.total ∧ nextL gen no t (i + 1) (acc ++ p.data) (if i = 0 then p else f) = some r)) := by
  rcases hp : readR s with _ | p
  · rw [nextL_none hp] at h; cases h
  · by_cases hb : p.gen = gen ∧ p.no = no ∧ partB p (if i = 0 then p else f) (i : Int) = true
    · by_cases ht : (i : Int) + 1 = p.total
      · rw [nextL_end hp hb ht] at h
        exact ⟨p, rfl, hb.1, hb.2.1, hb.2.2, .inl ⟨ht, (Option.some.inj h).symm⟩⟩
      · rw [nextL_on hp hb ht] at h
        exact ⟨p, rfl, hb.1, hb.2.1, hb.2.2, .inr ⟨ht, h⟩⟩
    · rw [nextL_bad hp hb] at h; cases h
theorem nextL_run {gen no : Int} : ∀ (l : List (List UInt8)) (i : Nat) (acc : List UInt8) (f : Pc) (r : List UInt8 × Nat), nextL gen no l i acc f = some r →
    ∃ st, (i ≠ 0 → st = f.stamp) ∧ ∀ j, i + j < r.2 → ∃ p, readR (l.getD j []) = some p ∧ p.gen = gen ∧ p.no = no ∧ p.stamp = st
  | [], i, acc, f, r, h => by simp [nextL] at h
  | s :: t, i, acc, f, r, h => by
    obtain ⟨p, hp, hg, hn, hpt, hr⟩ := nextL_cases h
    have hst : p.stamp = (if i = 0 then p else f).stamp := ((partB_iff _ _ _).1 hpt).2.2.1
    rcases hr with ⟨ht, rfl⟩ | ⟨ht, hr⟩
    · refine ⟨p.stamp, fun hi => ?_, fun j hj => ?_⟩
      · rw [hst, if_neg hi]
      · have : j = 0 := by simp only at hj; omega
        subst this
        exact ⟨p, hp, hg, hn, rfl⟩
    · obtain ⟨st, h1, h2⟩ := nextL_run t _ _ _ r hr
      have h1' := h1 (by omega)
      refine ⟨st, fun hi => ?_, fun j hj => ?_⟩
      · rw [h1', if_neg hi]
      · cases j with
        | zero => exact ⟨p, hp, hg, hn, by rw [h1', hst]⟩
        | succ j => rw [getD_consS]; exact h2 j (by omega)
theorem nextL_pref {gen no : Int} : ∀ (l l' : List (List UInt8)) (i : Nat) (acc : List UInt8) (f : Pc) (r : List UInt8 × Nat), nextL gen no l i acc f = some r →
    r.2 ≤ i + l'.length → (∀ j, i + j < r.2 → l'.getD j [] = l.getD j []) → nextL gen no l' i acc f = some r
  | [], l', i, acc, f, r, h, _, _ => by simp [nextL] at h
  | s :: t, [], i, acc, f, r, h, hl, _ => by
    have := (nextL_le _ _ _ _ r h).1
    simp at hl; omega
  | s :: t, s' :: t', i, acc, f, r, h, hl, he => by
    have h0 := he 0 (by have := (nextL_le _ _ _ _ r h).1; omega)
    rw [getD_cons0, getD_cons0] at h0
    subst h0
    obtain ⟨p, hp, hg, hn, hpt, hr⟩ := nextL_cases h
    rcases hr with ⟨ht, rfl⟩ | ⟨ht, hr⟩
    · exact nextL_end hp ⟨hg, hn, hpt⟩ ht
    · rw [nextL_on hp ⟨hg, hn, hpt⟩ ht]
      exact nextL_pref t t' _ _ _ r hr (by simp only [List.length_cons] at hl; omega) (fun j hj => by
        have := he (j + 1) (by omega)
        rwa [getD_consS, getD_consS] at this)
theorem nextL_nil (gen no : Int) (i : Nat) (acc : List UInt8) (f : Pc) : nextL gen no [] i acc f = none := by rw [nextL]
theorem readR_nil : readR [] = none := by unfold readR; exact if_pos (.inl (by decide))
/-- The first sector decides. -/
theorem nextL_head_none {gen no : Int} {l : List (List UInt8)} {i : Nat} {acc : List UInt8} {f : Pc} (h : ∀ p, readR (l.getD 0 []) = some p → ¬ (p.gen = gen ∧ p.no = no)) : nextL gen no l i acc f = none := by
  rcases hn : nextL gen no l i acc f with _ | r
  · rfl
  · exfalso
    cases l with
    | nil => rw [nextL_nil] at hn; cases hn
    | cons s t =>
      obtain ⟨p, hp, hg, hno, _⟩ := nextL_cases hn
      exact h p hp ⟨hg, hno⟩

/-! ### Stamps on the disk -/
/-- Every sector is one, and no stamp at an end of one is above S. -/
def Low (K : List (List UInt8)) (S : Nat) : Prop := ∀ j, j < K.length → (K.getD j []).length = 64 ∧ valL ((K.getD j []).drop 56) ≤ S
theorem Low.mono {K : List (List UInt8)} {S T : Nat} (h : Low K S) (hst : S ≤ T) : Low K T := fun j hj => ⟨(h j hj).1, Nat.le_trans (h j hj).2 hst⟩
theorem stamp_tail {s : List UInt8} {p : Pc} (h : readR s = some p) : p.stamp = valL (s.drop 56) := by
  obtain ⟨hr, rfl, hs⟩ := readR_some h
  rw [print_tail p (by rw [Pc.right_iff] at hr; omega), valL_beL 8 _ (by omega)]
theorem stamp_head {s : List UInt8} {p : Pc} (h : readR s = some p) : p.stamp = valL (s.take 8) := by
  obtain ⟨hr, rfl, hs⟩ := readR_some h
  rw [print_head p, valL_beL 8 _ (by omega)]
def IsFate (f : Nat) : Prop := f = 0 ∨ f = 16 ∨ f = 32 ∨ f = 48 ∨ f = 64
theorem mix_zero (t o : List UInt8) : mix 0 t o = o := by simp [mix]
theorem mix_all (t o : List UInt8) (ht : t.length = 64) (ho : o.length = 64) : mix 64 t o = t := by
  rw [mix, List.take_of_length_le (by omega), List.drop_eq_nil_of_le (by omega), List.append_nil]
theorem mix_head (f : Nat) (t o : List UInt8) (ht : t.length = 64) (hf : 8 ≤ f) : (mix f t o).take 8 = t.take 8 := by
  rw [mix, List.take_append_of_le_length (by rw [List.length_take]; omega), List.take_take, Nat.min_eq_left hf]
theorem mix_tail (f : Nat) (t o : List UInt8) (ht : t.length = 64) (hf : f ≤ 56) : (mix f t o).drop 56 = o.drop 56 := by
  have hl : (t.take f).length = f := by rw [List.length_take]; omega
  rw [mix, List.drop_append, hl, List.drop_eq_nil_of_le (by omega), List.nil_append, List.drop_drop, show f + (56 - f) = 56 by omega]
/-- A torn sector that reads as a piece is the new one or the old one. -/
theorem torn_piece {q p : Pc} {o : List UInt8} {S f : Nat} (hq : q.right = true) (hqs : q.stamp < 18446744073709551616) (ho : o.length = 64) (hlow : valL (o.drop 56) ≤ S) (hS : S < q.stamp) (hf : IsFate f)
    (h : readR (mix f q.print o) = some p) : (mix f q.print o = q.print ∧ p = q) ∨ (mix f q.print o = o ∧ p.stamp ≤ S) := by
  have hql : q.print.length = 64 := q.print_length (by rw [Pc.right_iff] at hq; omega)
  by_cases h0 : f = 0
  · subst h0
    rw [mix_zero] at h ⊢
    exact .inr ⟨rfl, by rw [stamp_tail h]; exact hlow⟩
  · by_cases h64 : f = 64
    · subst h64
      rw [mix_all _ _ hql ho] at h ⊢
      rw [readR_print q hq hqs] at h
      exact .inl ⟨rfl, (Option.some.inj h).symm⟩
    · exfalso
      have hh : 8 ≤ f ∧ f ≤ 56 := by rcases hf with h | h | h | h | h <;> omega
      have e1 := stamp_head h
      have e2 := stamp_tail h
      rw [mix_head f _ _ hql hh.1, print_head, valL_beL 8 _ (by omega)] at e1
      rw [mix_tail f _ _ hql hh.2] at e2
      omega
theorem mix_len {f : Nat} (hf : IsFate f) {t o : List UInt8} (ht : t.length = 64) (ho : o.length = 64) : (mix f t o).length = 64 := mix_length f t o ht ho (by rcases hf with h | h | h | h | h <;> omega)

/-! ### Torn writes -/
/-- K' is K, the sectors l written from a on: each of them wholly, in part or not. -/
structure Torn (K : List (List UInt8)) (a : Nat) (l : List (List UInt8)) (K' : List (List UInt8)) : Prop where
  len : K'.length = K.length
  fit : a + l.length ≤ K.length
  out : ∀ j, ¬ (a ≤ j ∧ j < a + l.length) → K'.getD j [] = K.getD j []
  at_ : ∀ i, i < l.length → ∃ f, IsFate f ∧ K'.getD (a + i) [] = mix f (l.getD i []) (K.getD (a + i) [])
theorem lay_getD {s : List UInt8} {st : Nat} {gen no : Int} {i : Nat} (h : i < countOf s.length) : (layL s st gen no).getD i [] = (pieceAt s st gen no i).print := by
  rw [List.getD_eq_getElem?_getD, layL_get s st gen no i h]; rfl
section
variable {K K' : List (List UInt8)} {a S st : Nat} {s : List UInt8} {g no : Int}
/-- What reads as a piece after a torn write. -/
theorem Torn.piece (h : Torn K a (layL s st g no) K') (hlow : Low K S) (hS : S < st) (hst : st < 18446744073709551616) (hok : layOk s g no = true) (j : Nat) {p : Pc} (hp : readR (K'.getD j []) = some p) :
    (K'.getD j [] = K.getD j [] ∧ p.stamp ≤ S) ∨ (∃ i, i < countOf s.length ∧ j = a + i ∧ K'.getD j [] = (layL s st g no).getD i [] ∧ p = pieceAt s st g no i) := by
  have hll := layL_length s st g no
  by_cases hj : a ≤ j ∧ j < a + (layL s st g no).length
  · obtain ⟨f, hf, he⟩ := h.at_ (j - a) (by omega)
    have hi : j - a < countOf s.length := by omega
    rw [show a + (j - a) = j by omega] at he
    have hjK : j < K.length := by have := h.fit; omega
    rw [he] at hp ⊢
    rw [lay_getD hi] at hp ⊢
    rcases torn_piece (piece_right s st g no _ hi hok) hst (hlow j hjK).1 (hlow j hjK).2 hS hf hp with ⟨h1, h2⟩ | ⟨h1, h2⟩
    · exact .inr ⟨j - a, hi, by omega, by rw [lay_getD hi]; exact h1, h2⟩
    · exact .inl ⟨h1, h2⟩
  · have he := h.out j hj
    rw [he] at hp
    have hjK : j < K.length := by
      refine Classical.byContradiction fun hn => ?_
      rw [List.getD_eq_getElem?_getD, List.getElem?_eq_none (by omega)] at hp
      rw [show (none : Option (List UInt8)).getD [] = [] from rfl, readR_nil] at hp
      cases hp
    exact .inl ⟨he, by rw [stamp_tail hp]; exact (hlow j hjK).2⟩
theorem Torn.low (h : Torn K a (layL s st g no) K') (hlow : Low K S) (hS : S ≤ st) (hst : st < 18446744073709551616) (hok : layOk s g no = true) : Low K' st := by
  intro j hj
  rw [h.len] at hj
  have hll := layL_length s st g no
  by_cases hja : a ≤ j ∧ j < a + (layL s st g no).length
  · obtain ⟨f, hf, he⟩ := h.at_ (j - a) (by omega)
    have hi : j - a < countOf s.length := by omega
    rw [show a + (j - a) = j by omega, lay_getD hi] at he
    have hr := piece_right s st g no _ hi hok
    have hql := (pieceAt s st g no (j - a)).print_length (by rw [Pc.right_iff] at hr; omega)
    rw [he]
    refine ⟨mix_len hf hql (hlow j hj).1, ?_⟩
    by_cases h64 : f = 64
    · subst h64
      rw [mix_all _ _ hql (hlow j hj).1, print_tail _ (by rw [Pc.right_iff] at hr; omega), piece_stamp, valL_beL 8 _ (show st < 256 ^ 8 by omega)]
      exact Nat.le_refl st
    · rw [mix_tail f _ _ hql (by rcases hf with h | h | h | h | h <;> omega)]
      exact Nat.le_trans (hlow j hj).2 hS
  · rw [h.out j hja]
    exact ⟨(hlow j hj).1, Nat.le_trans (hlow j hj).2 hS⟩
/-- What is read at the place of a torn write: all of the new text, or none where none stood. -/
theorem Torn.next (h : Torn K a (layL s st g no) K') (hlow : Low K S) (hS : S < st) (hst : st < 18446744073709551616) (hok : layOk s g no = true) (hnone : nextL g no (K.drop a) 0 [] Pc.zero = none) :
    nextL g no (K'.drop a) 0 [] Pc.zero = some (s, countOf s.length) ∨ nextL g no (K'.drop a) 0 [] Pc.zero = none := by
  rcases hn : nextL g no (K'.drop a) 0 [] Pc.zero with _ | r
  · exact .inr rfl
  · refine .inl ?_
    have hle := nextL_le _ _ _ _ _ hn
    obtain ⟨t, _, hrun⟩ := nextL_run _ _ _ _ _ hn
    have hrun' : ∀ j, j < r.2 → ∃ p, readR (K'.getD (a + j) []) = some p ∧ p.stamp = t := fun j hj => by
      obtain ⟨p, h1, _, _, h4⟩ := hrun j (by omega)
      rw [getD_drop] at h1
      exact ⟨p, h1, h4⟩
    by_cases ht : t = st
    · have hall : ∀ j, j < r.2 → j < countOf s.length ∧ K'.getD (a + j) [] = (layL s st g no).getD j [] := fun j hj => by
        obtain ⟨p, h1, h2⟩ := hrun' j hj
        rcases h.piece hlow hS hst hok (a + j) h1 with ⟨_, h3⟩ | ⟨i, h3, h4, h5, _⟩
        · omega
        · have : i = j := by omega
          subst this
          exact ⟨h3, h5⟩
      have hrc : r.2 ≤ countOf s.length := by
        have := (hall (r.2 - 1) (by omega)).1
        omega
      have hw := next_whole (s := s) (st := st) (gen := g) (no := no) hok hst [] Pc.zero
      rw [List.append_nil] at hw
      have := nextL_pref _ (layL s st g no) 0 [] Pc.zero r hn (by rw [layL_length]; omega) (fun j hj => by
        rw [getD_drop]
        exact ((hall j (by omega)).2).symm)
      rw [hw] at this
      exact this.symm
    · exfalso
      have hall : ∀ j, j < r.2 → K'.getD (a + j) [] = K.getD (a + j) [] := fun j hj => by
        obtain ⟨p, h1, h2⟩ := hrun' j hj
        rcases h.piece hlow hS hst hok (a + j) h1 with ⟨h3, _⟩ | ⟨i, _, _, _, h6⟩
        · exact h3
        · rw [h6] at h2
          exact absurd h2.symm ht
      have hlen : (K'.drop a).length = (K.drop a).length := by rw [List.length_drop, List.length_drop, h.len]
      have := nextL_pref _ (K.drop a) 0 [] Pc.zero r hn (by rw [← hlen]; simpa using hle.2) (fun j hj => by
        rw [getD_drop, getD_drop]
        exact (hall j (by omega)).symm)
      rw [hnone] at this
      cases this
end
end Go.Proofs.YtbdhicjebeoakaaDoor
set_option linter.unusedVariables false
set_option linter.unusedSimpArgs false
namespace Go.Proofs.YtbdhicjebeoakaaDoor

/-! ### Halves -/
def halfL (K : List (List UInt8)) (st half : Nat) : List (List UInt8) := (K.drop st).take half
theorem halfL_length {K : List (List UInt8)} {st half : Nat} (h : st + half ≤ K.length) : (halfL K st half).length = half := by
  simp [halfL]; omega
theorem halfL_getD (K : List (List UInt8)) (st half j : Nat) (h : j < half) : (halfL K st half).getD j [] = K.getD (st + j) [] := by
  simp [halfL, List.getD_eq_getElem?_getD, List.getElem?_take, List.getElem?_drop, h]
theorem halfL_out (K : List (List UInt8)) (st half j : Nat) (h : half ≤ j) : (halfL K st half).getD j [] = [] := by
  simp [halfL, List.getD_eq_getElem?_getD, List.getElem?_take, Nat.not_lt.2 h]
theorem getD_ext {l l' : List (List UInt8)} (h : l.length = l'.length) (he : ∀ j, j < l.length → l.getD j [] = l'.getD j []) : l = l' := by
  refine List.ext_getElem h (fun j h1 h2 => ?_)
  have := he j h1
  rwa [List.getD_eq_getElem?_getD, List.getD_eq_getElem?_getD, List.getElem?_eq_getElem h1, List.getElem?_eq_getElem h2] at this
theorem readF_eq {d : DSt} (hoff : d.off = false) (hc : d.cache = []) (j : Nat) : readF d (j : Int) = d.kept.getD j [] := by
  unfold readF DSt.read
  by_cases h : (d.kept.length : Int) ≤ (j : Int)
  · have hk : d.check (j : Int) = 2 := by unfold DSt.check; rw [hoff, if_neg (by simp), if_pos (Or.inr h)]
    rw [hk, if_pos (by decide), List.getD_eq_getElem?_getD, List.getElem?_eq_none (by omega)]; rfl
  · have hk : d.check (j : Int) = 0 := by unfold DSt.check; rw [hoff, if_neg (by simp), if_neg (by omega)]
    rw [hk, if_neg (by simp), hc]; rfl
theorem text_half {L : LSt} {d : DSt} (hoff : d.off = false) (hc : d.cache = []) {gen : Int} (hK : L.start gen + L.half ≤ d.kept.length) (a : Nat) (ha : a ≤ L.half) (no : Int) :
    L.text d gen a no = nextL gen no ((halfL d.kept (L.start gen) L.half).drop a) 0 [] Pc.zero := by
  unfold LSt.text nextAll
  have hr : room ((L.start gen : Int) + a) ((L.start gen : Int) + L.half) = L.half - a := by unfold room; rw [if_pos (by omega)]; omega
  rw [hr]
  congr 1
  have hl := halfL_length hK
  refine getD_ext (by simp [rowOf, hl]) (fun j hj => ?_)
  have hj' : j < L.half - a := by simpa [rowOf] using hj
  rw [getD_drop, halfL_getD _ _ _ _ (by omega), ← readF_eq hoff hc]
  simp only [rowOf, List.getD_eq_getElem?_getD, List.getElem?_map, List.getElem?_range hj', Option.map_some, Option.getD_some]
  congr 1
  omega
theorem LSt.start_two (L : LSt) (g : Nat) : L.start ((g + 2 : Nat) : Int) = L.start ((g : Nat) : Int) := by
  unfold LSt.start
  by_cases h : ((g : Nat) : Int) % 2 = 1
  · rw [if_pos h, if_pos (by omega)]
  · rw [if_neg h, if_neg (by omega)]
theorem LSt.start_apart (L : LSt) (g : Nat) : (L.start ((g : Nat) : Int) = L.base ∧ L.start ((g + 1 : Nat) : Int) = L.base + L.half) ∨ (L.start ((g : Nat) : Int) = L.base + L.half ∧ L.start ((g + 1 : Nat) : Int) = L.base) := by
  unfold LSt.start
  by_cases h : ((g : Nat) : Int) % 2 = 1
  · rw [if_pos h, if_neg (by omega)]; exact .inl ⟨rfl, rfl⟩
  · rw [if_neg h, if_pos (by omega)]; exact .inr ⟨rfl, rfl⟩

/-! ### The records that stand in a half -/
def Chain (g : Int) (H : List (List UInt8)) : Nat → Nat → List (List UInt8) → Nat → Prop
  | a, _, [], e => a = e
  | a, no, r :: rs, e => ∃ k, nextL g (no : Int) (H.drop a) 0 [] Pc.zero = some (r, k) ∧ Chain g H (a + k) (no + 1) rs e
theorem Chain.le {g : Int} {H : List (List UInt8)} : ∀ {rs : List (List UInt8)} {a no e : Nat}, Chain g H a no rs e → a ≤ e
  | [], a, no, e, h => by rw [Chain] at h; omega
  | r :: rs, a, no, e, h => by
    rw [Chain] at h
    obtain ⟨k, _, h⟩ := h
    have := Chain.le h
    omega
theorem Chain.keep {g : Int} {H H' : List (List UInt8)} : ∀ {rs : List (List UInt8)} {a no e : Nat}, Chain g H a no rs e → e ≤ H'.length → (∀ j, j < e → H'.getD j [] = H.getD j []) → Chain g H' a no rs e
  | [], a, no, e, h, _, _ => by rw [Chain] at h ⊢; exact h
  | r :: rs, a, no, e, h, hl, he => by
    rw [Chain] at h ⊢
    obtain ⟨k, hn, h⟩ := h
    have hle := h.le
    refine ⟨k, nextL_pref _ _ _ _ _ _ hn (by simp; omega) (fun j hj => ?_), h.keep hl he⟩
    rw [getD_drop, getD_drop]
    simp only at hj
    exact he _ (by omega)
theorem Chain.snoc {g : Int} {H : List (List UInt8)} {r : List UInt8} {k : Nat} : ∀ {rs : List (List UInt8)} {a no e : Nat}, Chain g H a no rs e → nextL g ((no + rs.length : Nat) : Int) (H.drop e) 0 [] Pc.zero = some (r, k) → Chain g H a no (rs ++ [r]) (e + k)
  | [], a, no, e, h, hn => by
    rw [Chain] at h
    subst h
    rw [List.nil_append, Chain]
    exact ⟨k, by simpa using hn, by rw [Chain]⟩
  | x :: rs, a, no, e, h, hn => by
    rw [Chain] at h
    obtain ⟨m, h1, h2⟩ := h
    rw [List.cons_append, Chain]
    refine ⟨m, h1, h2.snoc ?_⟩
    rw [show no + 1 + rs.length = no + (x :: rs).length by simp only [List.length_cons]; omega]
    exact hn
theorem more_chain {L : LSt} {d : DSt} {g : Int} {H : List (List UInt8)} (ht : ∀ a : Nat, a ≤ L.half → ∀ no, L.text d g a no = nextL g no (H.drop a) 0 [] Pc.zero) :
    ∀ (rs acc : List (List UInt8)) (a e f : Nat), Chain g H a (acc.length + 1) rs e → e ≤ L.half → nextL g ((acc.length + rs.length + 1 : Nat) : Int) (H.drop e) 0 [] Pc.zero = none → L.half ≤ a + f → L.more d g f a acc = (acc ++ rs, e)
  | [], acc, a, e, f, h, he, hn, hf => by
    rw [Chain] at h
    subst h
    rw [List.append_nil]
    refine LSt.more_none ?_ f
    rw [ht a he]
    exact hn
  | r :: rs, acc, a, e, f, h, he, hn, hf => by
    rw [Chain] at h
    obtain ⟨k, h1, h2⟩ := h
    have hle := h2.le
    have htx : L.text d g a ((acc.length : Int) + 1) = some (r, k) := by rw [ht a (by omega)]; exact h1
    obtain ⟨f', hf', hm⟩ := LSt.more_some htx hf
    rw [hm]
    have := more_chain ht rs (acc ++ [r]) (a + k) e f' (by rw [List.length_append]; exact h2) he (by rw [← hn]; congr 1; simp only [List.length_append, List.length_cons, List.length_nil]; omega) hf'
    rw [this]
    simp

/-! ### What the disk keeps -/
structure LInv (K : List (List UInt8)) (S : Nat) (L : LSt) : Prop where
  fit : L.base + 2 * L.half ≤ K.length
  pos : 1 ≤ L.half
  low : Low K S
  le : L.at_ ≤ L.half
  none0 : L.gen = 0 → L.at_ = 0 ∧ L.first = [] ∧ L.recs = []
  gens : ∀ j p, readR ((halfL K (L.start (L.gen : Int)) L.half).getD j []) = some p → p.gen ≤ (L.gen : Int)
  cur : 0 < L.gen → ∃ k, nextL (L.gen : Int) 0 (halfL K (L.start (L.gen : Int)) L.half) 0 [] Pc.zero = some (L.first, k) ∧ Chain (L.gen : Int) (halfL K (L.start (L.gen : Int)) L.half) k 1 L.recs L.at_
  stop : 0 < L.gen → nextL (L.gen : Int) ((L.recs.length + 1 : Nat) : Int) ((halfL K (L.start (L.gen : Int)) L.half).drop L.at_) 0 [] Pc.zero = none
  nos : ∀ j p, L.at_ ≤ j → readR ((halfL K (L.start (L.gen : Int)) L.half).getD j []) = some p → p.gen = (L.gen : Int) → p.no ≤ ((L.recs.length + 1 : Nat) : Int)
  ogens : ∀ j p, readR ((halfL K (L.start ((L.gen + 1 : Nat) : Int)) L.half).getD j []) = some p → p.gen ≤ ((L.gen + 1 : Nat) : Int) ∧ (p.gen = ((L.gen + 1 : Nat) : Int) → p.no = 0)
  onone : nextL ((L.gen + 1 : Nat) : Int) 0 (halfL K (L.start ((L.gen + 1 : Nat) : Int)) L.half) 0 [] Pc.zero = none
theorem LInv.stamp {K : List (List UInt8)} {S : Nat} {L : LSt} (h : LInv K S L) (x : Nat) : LInv K S { L with stamp := x } :=
  ⟨h.fit, h.pos, h.low, h.le, h.none0, h.gens, h.cur, h.stop, h.nos, h.ogens, h.onone⟩
theorem LInv.mono {K : List (List UInt8)} {S T : Nat} {L : LSt} (h : LInv K S L) (hT : S ≤ T) : LInv K T L :=
  ⟨h.fit, h.pos, h.low.mono hT, h.le, h.none0, h.gens, h.cur, h.stop, h.nos, h.ogens, h.onone⟩
theorem LSt.start_le (L : LSt) (g : Int) : L.start g + L.half ≤ L.base + 2 * L.half := by unfold LSt.start; split <;> omega

section
variable {L M : LSt} {d : DSt} {S : Nat}
theorem LSt.start_mod (M : LSt) (g : Nat) : M.start (((g : Nat) : Int) % 2) = M.start ((g : Nat) : Int) := by
  unfold LSt.start
  rw [Int.emod_emod_of_dvd _ (by decide : (2 : Int) ∣ 2)]
theorem start_same (hb : M.base = L.base) (hh : M.half = L.half) (g : Int) : M.start g = L.start g := by unfold LSt.start; rw [hb, hh]
theorem head_some {g no : Int} {l : List (List UInt8)} {r : List UInt8 × Nat} (h : nextL g no l 0 [] Pc.zero = some r) : ∃ p, readR (l.getD 0 []) = some p ∧ p.gen = g := by
  cases l with
  | nil => rw [nextL_nil] at h; cases h
  | cons s t =>
    obtain ⟨p, hp, hg, _⟩ := nextL_cases h
    exact ⟨p, hp, hg⟩
/-- The half that is in use is scanned. -/
theorem LInv.scan_cur (h : LInv d.kept S L) (hoff : d.off = false) (hc : d.cache = []) (hb : M.base = L.base) (hh : M.half = L.half) (hg : M.gen < L.gen) :
    M.scan d (((L.gen : Nat) : Int) % 2) = { M with gen := L.gen, first := L.first, recs := L.recs, at_ := L.at_ } := by
  obtain ⟨k, h1, h2⟩ := h.cur (by omega)
  have hfit := Nat.le_trans (L.start_le (L.gen : Int)) h.fit
  have hfitM : M.start (L.gen : Int) + M.half ≤ d.kept.length := by rw [start_same hb hh, hh]; exact hfit
  have hH : halfL d.kept (M.start (L.gen : Int)) M.half = halfL d.kept (L.start (L.gen : Int)) L.half := by rw [start_same hb hh, hh]
  obtain ⟨p, hp, hpg⟩ := head_some h1
  rw [halfL_getD _ _ _ _ (by have := h.pos; omega), Nat.add_zero] at hp
  have ht : ∀ a : Nat, a ≤ M.half → ∀ no, M.text d (L.gen : Int) a no = nextL (L.gen : Int) no ((halfL d.kept (L.start (L.gen : Int)) L.half).drop a) 0 [] Pc.zero := fun a ha no => by
    rw [text_half hoff hc hfitM a ha no, hH]
  have hle := h2.le
  have hhl := h.le
  have htx : M.text d (L.gen : Int) 0 0 = some (L.first, k) := by
    have := ht 0 (Nat.zero_le _) 0
    rw [List.drop_zero, h1] at this
    exact this
  have hmore : M.more d (L.gen : Int) M.half k [] = (L.recs, L.at_) := by
    have := more_chain ht L.recs [] k L.at_ M.half (by simpa using h2) (by omega) (by simpa using h.stop (by omega)) (by omega)
    simpa using this
  unfold LSt.scan
  rw [LSt.start_mod, start_same hb hh, readF_eq hoff hc, hp]
  simp only
  rw [if_neg (by rw [hpg]; omega), hpg, htx]
  simp only [hmore, Int.toNat_natCast]
/-- The other half is scanned: an older one, or none. -/
theorem LInv.scan_old (h : LInv d.kept S L) (hoff : d.off = false) (hc : d.cache = []) (hb : M.base = L.base) (hh : M.half = L.half) :
    M.scan d (((L.gen + 1 : Nat) : Int) % 2) = M ∨ (M.gen < (M.scan d (((L.gen + 1 : Nat) : Int) % 2)).gen ∧ (M.scan d (((L.gen + 1 : Nat) : Int) % 2)).gen < L.gen) := by
  have hfit := Nat.le_trans (L.start_le ((L.gen + 1 : Nat) : Int)) h.fit
  have hfitM : M.start ((L.gen + 1 : Nat) : Int) + M.half ≤ d.kept.length := by rw [start_same hb hh, hh]; exact hfit
  have hH : halfL d.kept (M.start ((L.gen + 1 : Nat) : Int)) M.half = halfL d.kept (L.start ((L.gen + 1 : Nat) : Int)) L.half := by rw [start_same hb hh, hh]
  unfold LSt.scan
  rw [LSt.start_mod, start_same hb hh, readF_eq hoff hc]
  rcases hp : readR (d.kept.getD (L.start ((L.gen + 1 : Nat) : Int)) []) with _ | p
  · exact .inl rfl
  · simp only
    by_cases h1 : p.gen ≤ (M.gen : Int) ∨ p.gen % 2 ≠ ((L.gen + 1 : Nat) : Int) % 2
    · rw [if_pos h1]; exact .inl rfl
    · rw [if_neg h1]
      have hp' : readR ((halfL d.kept (L.start ((L.gen + 1 : Nat) : Int)) L.half).getD 0 []) = some p := by
        rw [halfL_getD _ _ _ _ (by have := h.pos; omega), Nat.add_zero]; exact hp
      have hle := (h.ogens 0 p hp').1
      by_cases he : p.gen = ((L.gen + 1 : Nat) : Int)
      · have htx : M.text d p.gen 0 0 = none := by
          have := text_half hoff hc hfitM 0 (Nat.zero_le _) 0
          rw [List.drop_zero, hH, h.onone] at this
          rw [he]
          exact this
        rw [htx]
        exact .inl rfl
      · rcases M.text d p.gen 0 0 with _ | r
        · exact .inl rfl
        · refine .inr ⟨?_, ?_⟩
          · show M.gen < p.gen.toNat
            omega
          · show p.gen.toNat < L.gen
            omega
theorem LInv.scan_zero (h : LInv d.kept S L) (hoff : d.off = false) (hc : d.cache = []) (hb : M.base = L.base) (hh : M.half = L.half) (hg : L.gen = 0) : M.scan d 0 = M := by
  have hs : M.start 0 = L.start (L.gen : Int) := by rw [start_same hb hh, hg]; rfl
  unfold LSt.scan
  rw [hs, readF_eq hoff hc]
  rcases hp : readR (d.kept.getD (L.start (L.gen : Int)) []) with _ | p
  · rfl
  · have hp' : readR ((halfL d.kept (L.start (L.gen : Int)) L.half).getD 0 []) = some p := by
      rw [halfL_getD _ _ _ _ (by have := h.pos; omega), Nat.add_zero]; exact hp
    have := h.gens 0 p hp'
    exact if_pos (.inl (by omega))
/-- Open reads what is kept. -/
theorem LInv.opened (h : LInv d.kept S L) (hoff : d.off = false) (hc : d.cache = []) (boot : Nat) : LSt.opened L.base L.half boot d = { L with stamp := boot * 4294967296 } := by
  unfold LSt.opened
  generalize hM : (⟨L.base, L.half, boot * 4294967296, 0, 0, [], []⟩ : LSt) = M
  have hb : M.base = L.base := by rw [← hM]
  have hh : M.half = L.half := by rw [← hM]
  have hg : M.gen = 0 := by rw [← hM]
  have hs : M.stamp = boot * 4294967296 := by rw [← hM]
  by_cases h0 : L.gen = 0
  · have ho := h.scan_old hoff hc hb hh
    rw [h0, show ((0 + 1 : Nat) : Int) % 2 = 1 by decide] at ho
    rw [ho.resolve_right (by omega), h.scan_zero hoff hc hb hh h0, ← hM]
    obtain ⟨h1, h2, h3⟩ := h.none0 h0
    obtain ⟨a, b, c, e, f, g, i⟩ := L
    simp only at h0 h1 h2 h3
    subst h0 h1 h2 h3
    rfl
  · by_cases hodd : ((L.gen : Nat) : Int) % 2 = 1
    · have h1 := h.scan_cur hoff hc hb hh (by omega)
      rw [hodd] at h1
      rw [h1]
      have ho := h.scan_old (M := { M with gen := L.gen, first := L.first, recs := L.recs, at_ := L.at_ }) hoff hc hb hh
      rw [show ((L.gen + 1 : Nat) : Int) % 2 = 0 by omega] at ho
      rw [ho.resolve_right (fun hh => by have h1 := hh.1; have h2 := hh.2; simp only at h1; omega), ← hM]
    · have ho := h.scan_old (M := M) hoff hc hb hh
      rw [show ((L.gen + 1 : Nat) : Int) % 2 = 1 by omega] at ho
      have hsb := M.scan_base d 1
      generalize M.scan d 1 = N at ho hsb ⊢
      have hN : N.gen < L.gen := by
        rcases ho with rfl | ho
        · omega
        · exact ho.2
      have h1 := h.scan_cur hoff hc (hsb.1.trans hb) (hsb.2.1.trans hh) hN
      rw [show ((L.gen : Nat) : Int) % 2 = 0 by omega] at h1
      rw [h1]
      obtain ⟨a, b, c, e, f, g, i⟩ := N
      obtain ⟨e1, e2, e3⟩ := hsb
      simp only at e1 e2 e3
      subst e1 e2 e3
      rw [hb, hh, hs]
/-- A new disk. -/
theorem LInv.fresh (n base half st S : Nat) (h1 : 1 ≤ half) (h2 : base + 2 * half ≤ n) : LInv (List.replicate n zeros64) S ⟨base, half, st, 0, 0, [], []⟩ := by
  have hz : readR zeros64 = none := by decide
  have hg : ∀ j, (List.replicate n zeros64).getD j [] = zeros64 ∨ (List.replicate n zeros64).getD j [] = [] := fun j => by
    rw [List.getD_eq_getElem?_getD]
    by_cases h : j < n
    · rw [List.getElem?_replicate, if_pos h]; exact .inl rfl
    · rw [List.getElem?_replicate, if_neg h]; exact .inr rfl
  have hno : ∀ j, readR ((List.replicate n zeros64).getD j []) = none := fun j => by
    rcases hg j with h | h <;> rw [h]
    · exact hz
    · exact readR_nil
  have hh : ∀ st half j, readR ((halfL (List.replicate n zeros64) st half).getD j []) = none := fun st half j => by
    by_cases h : j < half
    · rw [halfL_getD _ _ _ _ h]; exact hno _
    · rw [halfL_out _ _ _ _ (by omega)]; exact readR_nil
  refine ⟨by simpa using h2, h1, fun j hj => ?_, Nat.zero_le _, fun _ => ⟨rfl, rfl, rfl⟩, fun j p hp => ?_, fun h => absurd h (by simp), fun h => absurd h (by simp), fun j p _ hp => ?_, fun j p hp => ?_, ?_⟩
  · rw [List.length_replicate] at hj
    rw [List.getD_eq_getElem?_getD, List.getElem?_replicate, if_pos hj]
    have e : valL (zeros64.drop 56) = 0 := by decide
    exact ⟨by simp [zeros64], by rw [show (some zeros64).getD [] = zeros64 from rfl, e]; exact Nat.zero_le _⟩
  · rw [hh] at hp; cases hp
  · rw [hh] at hp; cases hp
  · rw [hh] at hp; cases hp
  · exact nextL_head_none (fun p hp => by rw [hh] at hp; cases hp)
end
end Go.Proofs.YtbdhicjebeoakaaDoor
set_option linter.unusedVariables false
set_option linter.unusedSimpArgs false
namespace Go.Proofs.YtbdhicjebeoakaaDoor

/-! ### Writes, one by one -/
def nums (a : Nat) : List (List UInt8) → List (Nat × List UInt8)
  | [] => []
  | t :: r => (a, t) :: nums (a + 1) r
theorem nums_length : ∀ (a : Nat) (l : List (List UInt8)), (nums a l).length = l.length
  | _, [] => rfl
  | a, t :: r => by simp [nums, nums_length (a + 1) r]
theorem getD_set (l : List (List UInt8)) (a j : Nat) (s : List UInt8) : (l.set a s).getD j [] = if a = j ∧ j < l.length then s else l.getD j [] := by
  simp only [List.getD_eq_getElem?_getD, List.getElem?_set]
  by_cases h : a = j
  · subst h
    by_cases h2 : a < l.length
    · simp [h2]
    · rw [if_pos rfl, if_neg h2, if_neg (by omega), List.getElem?_eq_none (by omega)]
  · rw [if_neg h, if_neg (by omega)]
theorem land_nums (bits : Int) : ∀ (l : List (List UInt8)) (a i : Nat) (K : List (List UInt8)), a + l.length ≤ K.length → ∀ j,
    (land bits i (nums a l) K).getD j [] = if a ≤ j ∧ j < a + l.length then mix (fate bits ((i + (j - a) : Nat) : Int)) (l.getD (j - a) []) (K.getD j []) else K.getD j []
  | [], a, i, K, _, j => by rw [nums, land, if_neg (by simp)]
  | t :: r, a, i, K, h, j => by
    simp only [List.length_cons] at h
    rw [nums, land, land_nums bits r (a + 1) (i + 1) _ (by rw [List.length_set]; omega) j, getD_set]
    simp only [List.length_cons]
    by_cases h1 : a = j
    · subst h1
      rw [if_neg (by omega), if_pos ⟨rfl, by omega⟩, if_pos (by omega), Nat.sub_self, getD_cons0, Nat.add_zero]
    · rw [if_neg (by omega : ¬ (a = j ∧ j < K.length))]
      by_cases h2 : a + 1 ≤ j ∧ j < a + 1 + r.length
      · rw [if_pos h2, if_pos (by omega), show j - a = (j - (a + 1)) + 1 by omega, getD_consS, show i + 1 + (j - (a + 1)) = i + (j - (a + 1) + 1) by omega]
      · rw [if_neg h2, if_neg (by omega)]
theorem keep_nums : ∀ (l : List (List UInt8)) (a : Nat) (K : List (List UInt8)), a + l.length ≤ K.length → ∀ j,
    (keep (nums a l) K).getD j [] = if a ≤ j ∧ j < a + l.length then l.getD (j - a) [] else K.getD j []
  | [], a, K, _, j => by rw [nums, keep, if_neg (by simp)]
  | t :: r, a, K, h, j => by
    simp only [List.length_cons] at h
    rw [nums, keep, keep_nums r (a + 1) _ (by rw [List.length_set]; omega) j, getD_set]
    simp only [List.length_cons]
    by_cases h1 : a = j
    · subst h1
      rw [if_neg (by omega), if_pos ⟨rfl, by omega⟩, if_pos (by omega), Nat.sub_self, getD_cons0]
    · rw [if_neg (by omega : ¬ (a = j ∧ j < K.length))]
      by_cases h2 : a + 1 ≤ j ∧ j < a + 1 + r.length
      · rw [if_pos h2, if_pos (by omega), show j - a = (j - (a + 1)) + 1 by omega, getD_consS]
      · rw [if_neg h2, if_neg (by omega)]
theorem torn_keep {K l : List (List UInt8)} {a : Nat} (h : a + l.length ≤ K.length) (hK : All64 K) (hl : All64 l) : Torn K a l (keep (nums a l) K) where
  len := keep_length _ _
  fit := h
  out := fun j hj => by rw [keep_nums l a K h j, if_neg hj]
  at_ := fun i hi => ⟨64, .inr (.inr (.inr (.inr rfl))), by
    rw [keep_nums l a K h, if_pos (by omega), show a + i - a = i by omega, mix_all _ _ (hl.getD hi) (hK.getD (by omega))]⟩
theorem torn_land {K l : List (List UInt8)} {a : Nat} (h : a + l.length ≤ K.length) (bits : Int) (m : Nat) (hm : m ≤ l.length) : Torn K a l (land bits 0 (nums a (l.take m)) K) where
  len := land_length _ _ _ _
  fit := h
  out := fun j hj => by rw [land_nums bits (l.take m) a 0 K (by rw [List.length_take]; omega) j, if_neg (by rw [List.length_take]; omega)]
  at_ := fun i hi => by
    rw [land_nums bits (l.take m) a 0 K (by rw [List.length_take]; omega)]
    by_cases hlt : i < m
    · refine ⟨fate bits ((0 + (a + i - a) : Nat) : Int), fate_cases _ _, ?_⟩
      rw [if_pos (by rw [List.length_take]; omega), show a + i - a = i by omega]
      congr 1
      simp [List.getD_eq_getElem?_getD, List.getElem?_take, hlt]
    · exact ⟨0, .inl rfl, by rw [if_neg (by rw [List.length_take]; omega), mix_zero]⟩
theorem write_fits {d : DSt} {a : Nat} {t : List UInt8} (hoff : d.off = false) (ha : a < d.kept.length) (ht : t.length = 64) :
    d.write (a : Int) t = if d.armed = 0 then (0, d.put a t) else if 0 < d.armed - 1 then (0, { d.put a t with armed := d.armed - 1 }) else (5, ({ d.put a t with armed := d.armed - 1 } : DSt).crash d.bits) := by
  have hk : d.check (a : Int) = 0 := by unfold DSt.check; rw [hoff, if_neg (by simp), if_neg (by omega)]
  unfold DSt.write
  rw [hk, if_neg (by simp), if_neg (by omega)]
  rfl
theorem nums_snoc (c : List (Nat × List UInt8)) (a : Nat) (t : List UInt8) (r : List (List UInt8)) : c ++ [(a, t)] ++ nums (a + 1) r = c ++ nums a (t :: r) := by
  rw [nums, List.append_assoc]; rfl
/-- All of them are written, and flushed. -/
theorem writesL_ok : ∀ (l : List (List UInt8)) (d : DSt) (a : Nat), d.off = false → a + l.length ≤ d.kept.length → All64 l → (d.armed = 0 ∨ (l.length : Int) < d.armed) →
    writesL d a l = (0, { d with kept := keep (d.cache ++ nums a l) d.kept, cache := [], writes := d.writes + l.length, armed := if d.armed = 0 then 0 else d.armed - l.length })
  | [], d, a, hoff, _, _, _ => by
    rw [writesL, DSt.flush, if_neg (by rw [hoff]; simp), nums, List.append_nil]
    obtain ⟨k, c, o, ar, b, w⟩ := d
    simp only [List.length_nil]
    rw [show w + ((0 : Nat) : Int) = w by omega, show ar - ((0 : Nat) : Int) = ar by omega, ite_eq_right_iff.2 (fun h => h.symm)]
  | t :: r, d, a, hoff, ha, hl, har => by
    simp only [List.length_cons] at ha har
    have ht : t.length = 64 := hl t (by simp)
    have hr : All64 r := fun s hs => hl s (by simp [hs])
    have hw := write_fits hoff (a := a) (by omega) ht
    rw [writesL]
    by_cases h0 : d.armed = 0
    · rw [if_pos h0] at hw
      rw [hw, if_pos rfl]
      have := writesL_ok r (d.put a t) (a + 1) hoff (by show a + 1 + r.length ≤ d.kept.length; omega) hr (.inl h0)
      rw [this]
      simp only [DSt.put, nums_snoc, List.length_cons, h0, if_true]
      rw [show d.writes + 1 + (r.length : Int) = d.writes + ((r.length + 1 : Nat) : Int) by omega]
    · rw [if_neg h0, if_pos (by omega)] at hw
      rw [hw, if_pos rfl]
      have := writesL_ok r { d.put a t with armed := d.armed - 1 } (a + 1) hoff (by show a + 1 + r.length ≤ d.kept.length; omega) hr (.inr (by show (r.length : Int) < d.armed - 1; omega))
      rw [this]
      simp only [DSt.put, nums_snoc, List.length_cons]
      rw [if_neg (by omega : ¬ d.armed - 1 = 0), if_neg h0, show d.writes + 1 + (r.length : Int) = d.writes + ((r.length + 1 : Nat) : Int) by omega, show d.armed - 1 - (r.length : Int) = d.armed - ((r.length + 1 : Nat) : Int) by omega]
/-- The power fails at one of them. -/
theorem writesL_cut : ∀ (l : List (List UInt8)) (d : DSt) (a : Nat), d.off = false → a + l.length ≤ d.kept.length → All64 l → 0 < d.armed → d.armed ≤ (l.length : Int) →
    writesL d a l = (5, { d with kept := land d.bits 0 (d.cache ++ nums a (l.take d.armed.toNat)) d.kept, cache := [], off := true, armed := 0, writes := d.writes + d.armed })
  | [], d, a, _, _, _, h1, h2 => by simp only [List.length_nil] at h2; omega
  | t :: r, d, a, hoff, ha, hl, h1, h2 => by
    simp only [List.length_cons] at ha h2
    have ht : t.length = 64 := hl t (by simp)
    have hr : All64 r := fun s hs => hl s (by simp [hs])
    have hw := write_fits hoff (a := a) (by omega) ht
    rw [if_neg (by omega)] at hw
    rw [writesL]
    by_cases h3 : 0 < d.armed - 1
    · rw [if_pos h3] at hw
      rw [hw, if_pos rfl]
      have := writesL_cut r { d.put a t with armed := d.armed - 1 } (a + 1) hoff (by show a + 1 + r.length ≤ d.kept.length; omega) hr h3 (by show d.armed - 1 ≤ (r.length : Int); omega)
      rw [this]
      simp only [DSt.put, nums_snoc]
      have e : d.armed.toNat = (d.armed - 1).toNat + 1 := by omega
      rw [e, List.take_succ_cons, show d.writes + 1 + (d.armed - 1) = d.writes + d.armed by omega]
    · rw [if_neg h3] at hw
      rw [hw, if_neg (by simp)]
      have e : d.armed = 1 := by omega
      unfold DSt.crash
      rw [if_neg (by show ¬ d.off = true; rw [hoff]; simp)]
      simp only [DSt.put, e]
      rw [show (1 : Int).toNat = 1 from rfl, List.take_succ_cons, List.take_zero, nums, nums]
      rfl

/-! ### From the disk to its halves -/
theorem Torn.half {K K' l : List (List UInt8)} {st a half : Nat} (h : Torn K (st + a) l K') (h1 : a + l.length ≤ half) (h2 : st + half ≤ K.length) : Torn (halfL K st half) a l (halfL K' st half) where
  len := by rw [halfL_length h2, halfL_length (by rw [h.len]; exact h2)]
  fit := by rw [halfL_length h2]; exact h1
  out := fun j hj => by
    by_cases hh : j < half
    · rw [halfL_getD _ _ _ _ hh, halfL_getD _ _ _ _ hh, h.out _ (by omega)]
    · rw [halfL_out _ _ _ _ (by omega), halfL_out _ _ _ _ (by omega)]
  at_ := fun i hi => by
    obtain ⟨f, hf, he⟩ := h.at_ i hi
    refine ⟨f, hf, ?_⟩
    rw [halfL_getD _ _ _ _ (by omega), halfL_getD _ _ _ _ (by omega), ← Nat.add_assoc]
    exact he
theorem Torn.same {K K' l : List (List UInt8)} {st a half : Nat} (h : Torn K a l K') (h1 : a + l.length ≤ st ∨ st + half ≤ a) : halfL K' st half = halfL K st half := by
  refine getD_ext (by simp [halfL, h.len]) (fun j hj => ?_)
  by_cases hh : j < half
  · rw [halfL_getD _ _ _ _ hh, halfL_getD _ _ _ _ hh, h.out _ (by omega)]
  · rw [halfL_out _ _ _ _ (by omega), halfL_out _ _ _ _ (by omega)]
theorem Low.half {K : List (List UInt8)} {S st half : Nat} (h : Low K S) (h2 : st + half ≤ K.length) : Low (halfL K st half) S := by
  intro j hj
  rw [halfL_length h2] at hj
  rw [halfL_getD _ _ _ _ hj]
  exact h _ (by omega)

section
variable {K K' : List (List UInt8)} {S st : Nat} {L : LSt} {r a : List UInt8}
theorem LInv.fitg (h : LInv K S L) (g : Int) : L.start g + L.half ≤ K.length := Nat.le_trans (L.start_le g) h.fit
theorem start_off (L : LSt) (g : Nat) : L.start ((g : Nat) : Int) + L.half ≤ L.start ((g + 1 : Nat) : Int) ∨ L.start ((g + 1 : Nat) : Int) + L.half ≤ L.start ((g : Nat) : Int) := by
  rcases L.start_apart g with ⟨h1, h2⟩ | ⟨h1, h2⟩ <;> omega
/-- A record more is written. -/
theorem LInv.rec_ (h : LInv K S L) (hg : 0 < L.gen) (hn : L.at_ + countOf r.length ≤ L.half) (hS : S < st) (hst : st < 18446744073709551616) (hok : layOk r (L.gen : Int) ((L.recs.length + 1 : Nat) : Int) = true)
    (ht : Torn K (L.start (L.gen : Int) + L.at_) (layL r st (L.gen : Int) ((L.recs.length + 1 : Nat) : Int)) K') :
    (nextL (L.gen : Int) ((L.recs.length + 1 : Nat) : Int) ((halfL K' (L.start (L.gen : Int)) L.half).drop L.at_) 0 [] Pc.zero = some (r, countOf r.length) ∧ LInv K' st { L with recs := L.recs ++ [r], at_ := L.at_ + countOf r.length }) ∨
    (nextL (L.gen : Int) ((L.recs.length + 1 : Nat) : Int) ((halfL K' (L.start (L.gen : Int)) L.half).drop L.at_) 0 [] Pc.zero = none ∧ LInv K' st L) := by
  have hll := layL_length r st (L.gen : Int) ((L.recs.length + 1 : Nat) : Int)
  have hfg := h.fitg (L.gen : Int)
  have hH := ht.half (by rw [hll]; exact hn) hfg
  have hlH := h.low.half hfg
  have hO : halfL K' (L.start ((L.gen + 1 : Nat) : Int)) L.half = halfL K (L.start ((L.gen + 1 : Nat) : Int)) L.half := ht.same (by
    have := start_off L L.gen
    have := L.start_le (L.gen : Int)
    rw [hll]
    omega)
  have hlow' := ht.low h.low (Nat.le_of_lt hS) hst hok
  have hfit' : L.base + 2 * L.half ≤ K'.length := by rw [ht.len]; exact h.fit
  obtain ⟨k, hc1, hc2⟩ := h.cur hg
  have hk := hc2.le
  have hlen' : (halfL K' (L.start (L.gen : Int)) L.half).length = L.half := halfL_length (by rw [ht.len]; exact hfg)
  have hkeep : ∀ j, j < L.at_ → (halfL K' (L.start (L.gen : Int)) L.half).getD j [] = (halfL K (L.start (L.gen : Int)) L.half).getD j [] := fun j hj => hH.out j (by omega)
  have hle := h.le
  have hc1' : nextL (L.gen : Int) 0 (halfL K' (L.start (L.gen : Int)) L.half) 0 [] Pc.zero = some (L.first, k) :=
    nextL_pref _ _ _ _ _ _ hc1 (by rw [hlen']; simp only; omega) (fun j hj => by simp only at hj; exact hkeep j (by omega))
  have hc2' : Chain (L.gen : Int) (halfL K' (L.start (L.gen : Int)) L.half) k 1 L.recs L.at_ := hc2.keep (by rw [hlen']; exact hle) hkeep
  have hgens : ∀ j p, readR ((halfL K' (L.start (L.gen : Int)) L.half).getD j []) = some p → p.gen ≤ (L.gen : Int) := fun j p hp => by
    rcases hH.piece hlH hS hst hok j hp with ⟨h1, _⟩ | ⟨i, _, _, _, h6⟩
    · rw [h1] at hp; exact h.gens j p hp
    · rw [h6]; exact Int.le_refl _
  have hnos : ∀ j p, L.at_ ≤ j → readR ((halfL K' (L.start (L.gen : Int)) L.half).getD j []) = some p → p.gen = (L.gen : Int) → p.no ≤ ((L.recs.length + 1 : Nat) : Int) := fun j p hj hp hpg => by
    rcases hH.piece hlH hS hst hok j hp with ⟨h1, _⟩ | ⟨i, _, _, _, h6⟩
    · rw [h1] at hp; exact h.nos j p hj hp hpg
    · rw [h6]; exact Int.le_refl _
  rcases hH.next hlH hS hst hok (h.stop hg) with hnx | hnx
  · refine .inl ⟨hnx, hfit', h.pos, hlow', hn, fun e => absurd (show L.gen = 0 from e) (by omega), hgens, fun _ => ⟨k, hc1', hc2'.snoc ?_⟩, fun _ => ?_, fun j p hj hp hpg => ?_, ?_, ?_⟩
    · rw [Nat.add_comm 1]; exact hnx
    · refine nextL_head_none (fun p hp => ?_)
      rw [getD_drop] at hp
      rintro ⟨h1, h2⟩
      have := hnos _ p (Nat.le_trans (Nat.le_add_right _ _) (Nat.le_add_right _ _)) hp h1
      simp only [List.length_append, List.length_cons, List.length_nil] at h2
      omega
    · simp only [List.length_append, List.length_cons, List.length_nil]
      have hj' : L.at_ + countOf r.length ≤ j := hj
      have := hnos j p (by omega) hp hpg
      omega
    · show ∀ j p, readR ((halfL K' (L.start ((L.gen + 1 : Nat) : Int)) L.half).getD j []) = some p → _
      rw [hO]; exact h.ogens
    · show nextL _ 0 (halfL K' (L.start ((L.gen + 1 : Nat) : Int)) L.half) 0 [] Pc.zero = none
      rw [hO]; exact h.onone
  · refine .inr ⟨hnx, hfit', h.pos, hlow', hle, h.none0, hgens, fun _ => ⟨k, hc1', hc2'⟩, fun _ => hnx, hnos, ?_, ?_⟩
    · rw [hO]; exact h.ogens
    · rw [hO]; exact h.onone
/-- All of it is laid anew. -/
theorem LInv.all_ (h : LInv K S L) (hn : countOf a.length ≤ L.half) (hS : S < st) (hst : st < 18446744073709551616) (hok : layOk a ((L.gen + 1 : Nat) : Int) ((0 : Nat) : Int) = true)
    (ht : Torn K (L.start ((L.gen + 1 : Nat) : Int) + 0) (layL a st ((L.gen + 1 : Nat) : Int) ((0 : Nat) : Int)) K') :
    (nextL ((L.gen + 1 : Nat) : Int) 0 ((halfL K' (L.start ((L.gen + 1 : Nat) : Int)) L.half).drop 0) 0 [] Pc.zero = some (a, countOf a.length) ∧ LInv K' st { L with gen := L.gen + 1, first := a, recs := [], at_ := countOf a.length }) ∨
    (nextL ((L.gen + 1 : Nat) : Int) 0 ((halfL K' (L.start ((L.gen + 1 : Nat) : Int)) L.half).drop 0) 0 [] Pc.zero = none ∧ LInv K' st L) := by
  rw [show ((0 : Nat) : Int) = 0 from rfl] at hok ht
  have hll := layL_length a st ((L.gen + 1 : Nat) : Int) 0
  have hfg := h.fitg ((L.gen + 1 : Nat) : Int)
  have hH := ht.half (by rw [hll]; omega) hfg
  have hlH := h.low.half hfg
  have hO : halfL K' (L.start (L.gen : Int)) L.half = halfL K (L.start (L.gen : Int)) L.half := ht.same (by
    have := start_off L L.gen
    rw [hll]
    omega)
  have hlow' := ht.low h.low (Nat.le_of_lt hS) hst hok
  have hfit' : L.base + 2 * L.half ≤ K'.length := by rw [ht.len]; exact h.fit
  have hgens : ∀ j p, readR ((halfL K' (L.start ((L.gen + 1 : Nat) : Int)) L.half).getD j []) = some p → p.gen ≤ ((L.gen + 1 : Nat) : Int) ∧ (p.gen = ((L.gen + 1 : Nat) : Int) → p.no = 0) := fun j p hp => by
    rcases hH.piece hlH hS hst hok j hp with ⟨h1, _⟩ | ⟨i, _, _, _, h6⟩
    · rw [h1] at hp; exact h.ogens j p hp
    · rw [h6]; exact ⟨Int.le_refl _, fun _ => rfl⟩
  rcases hH.next hlH hS hst hok (by rw [List.drop_zero]; exact h.onone) with hnx | hnx
  · refine .inl ⟨hnx, hfit', h.pos, hlow', hn, fun e => absurd e (by simp), fun j p hp => (hgens j p hp).1, fun _ => ⟨countOf a.length, by rw [List.drop_zero] at hnx; exact hnx, rfl⟩, fun _ => ?_, fun j p hj hp hpg => ?_, ?_, ?_⟩
    · refine nextL_head_none (fun p hp => ?_)
      rw [getD_drop] at hp
      rintro ⟨h1, h2⟩
      have := (hgens _ p hp).2 h1
      rw [this] at h2
      simp at h2
    · rw [(hgens j p hp).2 hpg]
      exact Int.natCast_nonneg _
    · show ∀ j p, readR ((halfL K' (L.start ((L.gen + 2 : Nat) : Int)) L.half).getD j []) = some p → p.gen ≤ ((L.gen + 2 : Nat) : Int) ∧ (p.gen = ((L.gen + 2 : Nat) : Int) → p.no = 0)
      rw [L.start_two, hO]
      intro j p hp
      have := h.gens j p hp
      exact ⟨by omega, fun e => by omega⟩
    · show nextL ((L.gen + 2 : Nat) : Int) 0 (halfL K' (L.start ((L.gen + 2 : Nat) : Int)) L.half) 0 [] Pc.zero = none
      rw [L.start_two, hO]
      refine nextL_head_none (fun p hp => ?_)
      have := h.gens _ p hp
      rintro ⟨h1, _⟩
      omega
  · refine .inr ⟨hnx, hfit', h.pos, hlow', h.le, h.none0, ?_, ?_, ?_, ?_, hgens, by rw [List.drop_zero] at hnx; exact hnx⟩
    · rw [hO]; exact h.gens
    · rw [hO]; exact h.cur
    · rw [hO]; exact h.stop
    · rw [hO]; exact h.nos
end
end Go.Proofs.YtbdhicjebeoakaaDoor
set_option linter.unusedVariables false
set_option linter.unusedSimpArgs false
namespace Go.Proofs.YtbdhicjebeoakaaDoor

/-- The document's Append. -/
def LSt.spec (L : LSt) (r a : List UInt8) : Int × LSt :=
  if 2147483646 ≤ L.gen then (13, L)
  else if 0 < L.gen ∧ L.at_ + countOf r.length ≤ L.half then (0, { L with recs := L.recs ++ [r], at_ := L.at_ + countOf r.length })
  else if L.half < countOf a.length then (4, L)
  else (0, { L with gen := L.gen + 1, first := a, recs := [], at_ := countOf a.length })
/-- Between two calls. -/
structure LOk (L : LSt) (d : DSt) : Prop where
  inv : LInv d.kept L.stamp L
  off : d.off = false
  cache : d.cache = []
  wf : d.Wf
theorem lay_all64 {s : List UInt8} {st : Nat} {g no : Int} (hok : layOk s g no = true) : All64 (layL s st g no) := by
  intro t ht
  rw [layL] at ht
  obtain ⟨i, hi, rfl⟩ := List.mem_map.1 ht
  have hr := piece_right s st g no i (by simpa using hi) hok
  exact Pc.print_length _ (by rw [Pc.right_iff] at hr; omega)
/-- What Append leaves: the document's, or, where the power fails, the old or the document's. -/
structure AppOk (L : LSt) (d : DSt) (r a : List UInt8) (y : Int × LSt × DSt) : Prop where
  e : y.1 = (L.spec r a).1
  log : y.2.1 = { (L.spec r a).2 with stamp := y.2.1.stamp }
  up : L.stamp ≤ y.2.1.stamp ∧ y.2.1.stamp ≤ L.stamp + 1
  ok : LOk y.2.1 y.2.2
  armed : d.armed = 0 → y.2.2.armed = 0
  len : y.2.2.kept.length = d.kept.length
  writes : y.2.2.writes ≤ d.writes + 2000
structure AppDown (L : LSt) (d : DSt) (r a : List UInt8) (y : Int × LSt × DSt) : Prop where
  e : y.1 = 5
  armed : d.armed ≠ 0
  spec : (L.spec r a).1 = 0
  off : y.2.2.off = true
  cache : y.2.2.cache = []
  wf : y.2.2.Wf
  len : y.2.2.kept.length = d.kept.length
  writes : y.2.2.writes ≤ d.writes + 2000
  inv : LInv y.2.2.kept (L.stamp + 1) L ∨ LInv y.2.2.kept (L.stamp + 1) (L.spec r a).2
theorem writesL_wf : ∀ (l : List (List UInt8)) (d : DSt) (a : Nat), d.Wf → (writesL d a l).2.Wf
  | [], d, a, h => by rw [writesL]; exact DSt.flush_wf h
  | t :: r, d, a, h => by
    rw [writesL]
    split
    · exact writesL_wf r _ _ (DSt.write_wf h _ _)
    · exact DSt.write_wf h _ _
theorem take_all (l : List (List UInt8)) : l.take l.length = l := List.take_length
theorem app_any {L : LSt} {d : DSt} (h : LOk L d) (hst : L.stamp + 1 < 18446744073709551616) (hrl : L.recs.length ≤ 60000) (hh : L.half ≤ 2000) (r a : List UInt8) :
    AppOk L d r a (L.app d r a) ∨ AppDown L d r a (L.app d r a) := by
  have hw := h.wf.armed0
  by_cases h1 : 2147483646 ≤ L.gen
  · have hs : L.spec r a = (13, L) := by unfold LSt.spec; rw [if_pos h1]
    have hy : L.app d r a = (13, L, d) := by unfold LSt.app; rw [if_pos h1]
    rw [hy]
    exact .inl ⟨by rw [hs], by rw [hs], by simp, h, fun e => e, rfl, by simp; omega⟩
  · by_cases h2 : 0 < L.gen ∧ L.at_ + countOf r.length ≤ L.half
    · have hs : L.spec r a = (0, { L with recs := L.recs ++ [r], at_ := L.at_ + countOf r.length }) := by unfold LSt.spec; rw [if_neg h1, if_pos h2]
      rw [LSt.app_rec (by omega) h2.1 h2.2]
      have hok : layOk r (L.gen : Int) ((L.recs.length + 1 : Nat) : Int) = true := by rw [layOk_iff]; omega
      have hll := layL_length r (L.stamp + 1) (L.gen : Int) ((L.recs.length + 1 : Nat) : Int)
      have hal := lay_all64 (s := r) (st := L.stamp + 1) hok
      have hfit : L.start (L.gen : Int) + L.at_ + (layL r (L.stamp + 1) (L.gen : Int) ((L.recs.length + 1 : Nat) : Int)).length ≤ d.kept.length := by
        have := h.inv.fitg (L.gen : Int); omega
      have hwf := writesL_wf (layL r (L.stamp + 1) (L.gen : Int) ((L.recs.length + 1 : Nat) : Int)) d (L.start (L.gen : Int) + L.at_) h.wf
      by_cases har : d.armed = 0 ∨ ((layL r (L.stamp + 1) (L.gen : Int) ((L.recs.length + 1 : Nat) : Int)).length : Int) < d.armed
      · have hwl := writesL_ok _ d _ h.off hfit hal har
        have ht := torn_keep hfit h.wf.all hal
        rcases h.inv.rec_ h2.1 h2.2 (Nat.lt_succ_self _) hst hok ht with ⟨_, hi⟩ | ⟨hn, _⟩
        · rw [hwl] at hwf ⊢
          rw [h.cache, List.nil_append] at hwf ⊢
          refine .inl ⟨by rw [hs], ?_, ?_, ⟨?_, h.off, rfl, hwf⟩, ?_, keep_length _ _, ?_⟩
          · rw [hs]; simp only [if_true]
          · simp only [if_true]; omega
          · simp only [if_true]; exact hi.stamp (L.stamp + 1)
          · intro e; simp only [e, if_true]
          · simp only [hll]; omega
        · exfalso
          have hk : (halfL (keep (nums (L.start (L.gen : Int) + L.at_) (layL r (L.stamp + 1) (L.gen : Int) ((L.recs.length + 1 : Nat) : Int))) d.kept) (L.start (L.gen : Int)) L.half).drop L.at_ =
              layL r (L.stamp + 1) (L.gen : Int) ((L.recs.length + 1 : Nat) : Int) ++ ((halfL d.kept (L.start (L.gen : Int)) L.half).drop L.at_).drop (countOf r.length) := by
            have e1 := halfL_length (K := d.kept) (h.inv.fitg (L.gen : Int))
            have e2 := halfL_length (K := keep (nums (L.start (L.gen : Int) + L.at_) (layL r (L.stamp + 1) (L.gen : Int) ((L.recs.length + 1 : Nat) : Int))) d.kept) (st := L.start (L.gen : Int)) (half := L.half) (by rw [keep_length]; exact h.inv.fitg _)
            refine getD_ext (by simp only [List.length_drop, List.length_append, e1, e2, hll]; omega) (fun j hj => ?_)
            simp only [List.length_drop, e2] at hj
            rw [getD_drop, halfL_getD _ _ _ _ (by omega), keep_nums _ _ _ hfit]
            by_cases hj2 : j < countOf r.length
            · rw [if_pos (by omega), show L.start (L.gen : Int) + (L.at_ + j) - (L.start (L.gen : Int) + L.at_) = j by omega]
              simp only [List.getD_eq_getElem?_getD]
              rw [List.getElem?_append_left (by omega)]
            · rw [if_neg (by omega)]
              have : (layL r (L.stamp + 1) (L.gen : Int) ((L.recs.length + 1 : Nat) : Int) ++ ((halfL d.kept (L.start (L.gen : Int)) L.half).drop L.at_).drop (countOf r.length)).getD j [] = (((halfL d.kept (L.start (L.gen : Int)) L.half).drop L.at_).drop (countOf r.length)).getD (j - countOf r.length) [] := by
                simp only [List.getD_eq_getElem?_getD]
                rw [List.getElem?_append_right (by omega), hll]
              rw [this, getD_drop, getD_drop, halfL_getD _ _ _ _ (by omega)]
              exact congrArg (fun x => d.kept.getD x []) (by omega)
          rw [hk, next_whole hok hst] at hn
          cases hn
      · have hwl := writesL_cut _ d _ h.off hfit hal (by omega) (by omega)
        have ht := torn_land hfit d.bits d.armed.toNat (by omega)
        rw [hwl] at hwf ⊢
        rw [h.cache, List.nil_append] at hwf ⊢
        refine .inr ⟨rfl, by omega, by rw [hs], rfl, rfl, hwf, land_length _ _ _ _, by simp only; omega, ?_⟩
        rcases h.inv.rec_ h2.1 h2.2 (Nat.lt_succ_self _) hst hok ht with ⟨_, hi⟩ | ⟨_, hi⟩
        · exact .inr (by rw [hs]; exact hi)
        · exact .inl hi
    · by_cases h3 : L.half < countOf a.length
      · have hs : L.spec r a = (4, L) := by unfold LSt.spec; rw [if_neg h1, if_neg h2, if_pos h3]
        have hy : L.app d r a = (4, L, d) := by unfold LSt.app; rw [if_neg h1, if_neg h2, if_pos h3]
        rw [hy]
        exact .inl ⟨by rw [hs], by rw [hs], by simp, h, fun e => e, rfl, by simp; omega⟩
      · have hs : L.spec r a = (0, { L with gen := L.gen + 1, first := a, recs := [], at_ := countOf a.length }) := by unfold LSt.spec; rw [if_neg h1, if_neg h2, if_neg h3]
        have hn : countOf a.length ≤ L.half := by omega
        rw [LSt.app_whole (by omega) h2 hn]
        have hok : layOk a ((L.gen + 1 : Nat) : Int) ((0 : Nat) : Int) = true := by rw [layOk_iff]; omega
        have hll := layL_length a (L.stamp + 1) ((L.gen + 1 : Nat) : Int) ((0 : Nat) : Int)
        have hal := lay_all64 (s := a) (st := L.stamp + 1) hok
        have hfit : L.start ((L.gen + 1 : Nat) : Int) + 0 + (layL a (L.stamp + 1) ((L.gen + 1 : Nat) : Int) ((0 : Nat) : Int)).length ≤ d.kept.length := by
          have := h.inv.fitg ((L.gen + 1 : Nat) : Int); omega
        have hwf := writesL_wf (layL a (L.stamp + 1) ((L.gen + 1 : Nat) : Int) ((0 : Nat) : Int)) d (L.start ((L.gen + 1 : Nat) : Int) + 0) h.wf
        by_cases har : d.armed = 0 ∨ ((layL a (L.stamp + 1) ((L.gen + 1 : Nat) : Int) ((0 : Nat) : Int)).length : Int) < d.armed
        · have hwl := writesL_ok _ d _ h.off hfit hal har
          have ht := torn_keep hfit h.wf.all hal
          rcases h.inv.all_ hn (Nat.lt_succ_self _) hst hok ht with ⟨_, hi⟩ | ⟨hn2, _⟩
          · rw [hwl] at hwf ⊢
            rw [h.cache, List.nil_append] at hwf ⊢
            refine .inl ⟨by rw [hs], ?_, ?_, ⟨?_, h.off, rfl, hwf⟩, ?_, keep_length _ _, ?_⟩
            · rw [hs]; simp only [if_true]
            · simp only [if_true]; omega
            · simp only [if_true]; exact hi.stamp (L.stamp + 1)
            · intro e; simp only [e, if_true]
            · simp only [hll]; omega
          · exfalso
            have hk : (halfL (keep (nums (L.start ((L.gen + 1 : Nat) : Int) + 0) (layL a (L.stamp + 1) ((L.gen + 1 : Nat) : Int) ((0 : Nat) : Int))) d.kept) (L.start ((L.gen + 1 : Nat) : Int)) L.half).drop 0 =
                layL a (L.stamp + 1) ((L.gen + 1 : Nat) : Int) ((0 : Nat) : Int) ++ ((halfL d.kept (L.start ((L.gen + 1 : Nat) : Int)) L.half).drop 0).drop (countOf a.length) := by
              have e1 := halfL_length (K := d.kept) (h.inv.fitg ((L.gen + 1 : Nat) : Int))
              have e2 := halfL_length (K := keep (nums (L.start ((L.gen + 1 : Nat) : Int) + 0) (layL a (L.stamp + 1) ((L.gen + 1 : Nat) : Int) ((0 : Nat) : Int))) d.kept) (st := L.start ((L.gen + 1 : Nat) : Int)) (half := L.half) (by rw [keep_length]; exact h.inv.fitg _)
              refine getD_ext (by simp only [List.length_drop, List.length_append, e1, e2, hll]; omega) (fun j hj => ?_)
              simp only [List.length_drop, e2] at hj
              rw [getD_drop, halfL_getD _ _ _ _ (by omega), keep_nums _ _ _ hfit]
              by_cases hj2 : j < countOf a.length
              · rw [if_pos (by omega), show L.start ((L.gen + 1 : Nat) : Int) + (0 + j) - (L.start ((L.gen + 1 : Nat) : Int) + 0) = j by omega]
                simp only [List.getD_eq_getElem?_getD]
                rw [List.getElem?_append_left (by omega)]
              · rw [if_neg (by omega)]
                have : (layL a (L.stamp + 1) ((L.gen + 1 : Nat) : Int) ((0 : Nat) : Int) ++ ((halfL d.kept (L.start ((L.gen + 1 : Nat) : Int)) L.half).drop 0).drop (countOf a.length)).getD j [] = (((halfL d.kept (L.start ((L.gen + 1 : Nat) : Int)) L.half).drop 0).drop (countOf a.length)).getD (j - countOf a.length) [] := by
                  simp only [List.getD_eq_getElem?_getD]
                  rw [List.getElem?_append_right (by omega), hll]
                rw [this, getD_drop, getD_drop, halfL_getD _ _ _ _ (by omega)]
                exact congrArg (fun x => d.kept.getD x []) (by omega)
            rw [hk, show (0 : Int) = ((0 : Nat) : Int) from rfl, next_whole hok hst] at hn2
            cases hn2
        · have hwl := writesL_cut _ d _ h.off hfit hal (by omega) (by omega)
          have ht := torn_land hfit d.bits d.armed.toNat (by omega)
          rw [hwl] at hwf ⊢
          rw [h.cache, List.nil_append] at hwf ⊢
          refine .inr ⟨rfl, by omega, by rw [hs], rfl, rfl, hwf, land_length _ _ _ _, by simp only; omega, ?_⟩
          rcases h.inv.all_ hn (Nat.lt_succ_self _) hst hok ht with ⟨_, hi⟩ | ⟨_, hi⟩
          · exact .inr (by rw [hs]; exact hi)
          · exact .inl hi
/-- Where the power does not fail. -/
theorem app_calm {L : LSt} {d : DSt} (h : LOk L d) (hst : L.stamp + 1 < 18446744073709551616) (hrl : L.recs.length ≤ 60000) (hh : L.half ≤ 2000) (ha : d.armed = 0) (r a : List UInt8) : AppOk L d r a (L.app d r a) := by
  rcases app_any h hst hrl hh r a with h1 | h1
  · exact h1
  · exact absurd ha h1.armed
/-- The log opened anew. -/
theorem LOk.opened {L : LSt} {d : DSt} (h : LOk L d) (boot : Nat) : LSt.opened L.base L.half boot d = { L with stamp := boot * 4294967296 } := h.inv.opened h.off h.cache boot
theorem LOk.again {L : LSt} {d : DSt} (h : LOk L d) (x : Nat) (hx : L.stamp ≤ x) : LOk { L with stamp := x } d := ⟨(h.inv.stamp x).mono hx, h.off, h.cache, h.wf⟩
theorem LOk.fresh (n base half st : Nat) (h1 : 1 ≤ half) (h2 : base + 2 * half ≤ n) (h3 : n ≤ 4096) : LOk ⟨base, half, st, 0, 0, [], []⟩ (DSt.new n) :=
  ⟨LInv.fresh n base half st st h1 h2, rfl, rfl, DSt.new_wf n (by omega) h3⟩
theorem opened_fresh (n base half boot : Nat) (h1 : 1 ≤ half) (h2 : base + 2 * half ≤ n) (h3 : n ≤ 4096) : LSt.opened base half boot (DSt.new n) = ⟨base, half, boot * 4294967296, 0, 0, [], []⟩ :=
  (LOk.fresh n base half 0 h1 h2 h3).opened boot
end Go.Proofs.YtbdhicjebeoakaaDoor
