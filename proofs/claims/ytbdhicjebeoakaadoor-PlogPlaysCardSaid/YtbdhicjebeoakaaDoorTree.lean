/- A region that draws its order, walked as a tree: where two operations that both change the world may come up, both ways are walked. S, what every world meets, may grow on the way. -/
import Derived.Test.YtbdhicjebeoakaaDoorOrd
set_option linter.unusedVariables false
namespace Go.Proofs.YtbdhicjebeoakaaDoor
inductive Tr where
  | done : Tr
  | take : Nat → Tr → Tr
  | one : Nat → Tr → Tr
  | two : Nat → Tr → Nat → Tr → Tr
/-- The same, the operations written out. -/
inductive TrO where
  | done : TrO
  | take : Oper → TrO → TrO
  | one : Oper → TrO → TrO
  | two : Oper → TrO → Oper → TrO → TrO
def Tr.on (l : List Oper) : Tr → TrO
  | .done => .done
  | .take i t => .take (l.getD i noOper) (t.on l)
  | .one i t => .one (l.getD i noOper) (t.on l)
  | .two i t j s => .two (l.getD i noOper) (t.on l) (l.getD j noOper) (s.on l)
section
variable {P : Program} {ops : Array Oper} {md : Region.Mode} {Q : Exit → Act → World → Prop}
def trB (md : Region.Mode) (ops : Array Oper) (n : Nat) : Nat → Tr → Array Bool → Bool
  | 0, .done, listed => Region.seqB md ops (ops.size - n) n listed
  | f + 1, .take i t, listed => decide (i < n) && (Region.ready md ops listed).contains i && Region.free md ops listed i && trB md ops n f t (listed.setIfInBounds i true)
  | f + 1, .one i t, listed => decide (i < n) && decide (Region.ready md ops listed = [i]) && trB md ops n f t (listed.setIfInBounds i true)
  | f + 1, .two i t j s, listed => decide (i < n) && decide (j < n) && decide (Region.ready md ops listed = [i, j]) && trB md ops n f t (listed.setIfInBounds i true) && trB md ops n f s (listed.setIfInBounds j true)
  | _, _, _ => false
def trTailB (md : Region.Mode) (ops : Array Oper) (n : Nat) (t : Tr) : Bool :=
  Region.noSelect ops && decide (n < ops.size) && Region.sinkB md ops n && Region.chainB md ops n && trB md ops n n t (Array.replicate ops.size false)
/-- One operation that comes up, and what is to be shown behind it. -/
def wpOne (P : Program) (ops : Array Oper) (Q : Exit → Act → World → Prop) (o : Oper) (K : Act → World → Prop) (a : Act) (w : World) : Prop :=
  if Region.wanted o (yielded ops a.tmps) then o.wp P a w K Q else K (a.put o.dst undef) w
def wpTr (P : Program) (ops : Array Oper) (Q : Exit → Act → World → Prop) (L : Act → World → Prop) : TrO → (World → Prop) → Act → World → Prop
  | .done, _, a, w => L a w
  | .take o t, S, a, w => ∃ v, YieldsC P ops S o v a ∧ wpTr P ops Q L t S (a.put o.dst v) w
  | .one o t, S, a, w => wpOne P ops Q o (fun a' w' => ∃ S' : World → Prop, (∀ W, S' W → S W) ∧ S' w' ∧ wpTr P ops Q L t S' a' w') a w
  | .two o t u s, S, a, w => wpOne P ops Q o (fun a' w' => ∃ S' : World → Prop, (∀ W, S' W → S W) ∧ S' w' ∧ wpTr P ops Q L t S' a' w') a w ∧
      wpOne P ops Q u (fun a' w' => ∃ S' : World → Prop, (∀ W, S' W → S W) ∧ S' w' ∧ wpTr P ops Q L s S' a' w') a w
theorem wpAnyHL_mono {S S' : World → Prop} {n : Nat} {L : Array Bool → Act → World → Prop} (hs : ∀ W, S' W → S W) : ∀ (f : Nat) (listed : Array Bool) (a : Act) (w : World), wpAnyHL P md ops Q S' n L f listed a w → wpAnyHL P md ops Q S n L f listed a w
  | 0, _, _, _, h => h
  | f + 1, listed, a, w, h => ⟨h.1, fun i hi => ⟨(h.2 i hi).1, wpOp_mono (fun a' w' hh => ⟨hs _ hh.1, wpAnyHL_mono hs f _ a' w' hh.2⟩) (h.2 i hi).2⟩⟩
theorem wpOp_of_one {i : Nat} {o : Oper} {K K' : Act → World → Prop} {a : Act} {w : World} (hi : ops[i]? = some o) (hK : ∀ a w, K a w → K' a w) (h : wpOne P ops Q o K a w) : wpOp P ops Q i K' a w := by
  unfold wpOp
  simp only [hi]
  unfold wpOne at h
  split
  · rename_i hw
    rw [if_pos hw] at h
    exact .inl (Oper.wp_mono hK h)
  · rename_i hw
    rw [if_neg hw] at h
    exact hK _ _ h
theorem wpAnyHL_tr {ops : Array Oper} {l : List Oper} {n : Nat} {Lq : Act → World → Prop} (hops : ops = l.toArray) (hsel : Region.noSelect ops = true) (hs : Region.sinkB md ops n = true) (hc : Region.chainB md ops n = true) (hn : n < ops.size)
    (hQ : ∀ c a d v w, Q (.panic c) (Act.put a d v) w → Q (.panic c) a w) :
    ∀ (t : Tr) (f : Nat) (S : World → Prop) (listed : Array Bool) (a : Act) (w : World), HeadInv md ops n listed →
    trB md ops n f t listed = true → S w → wpTr P ops Q Lq (t.on l) S a w →
    wpAnyHL P md ops Q S n (fun listed' a' w' => Region.seqB md ops (ops.size - n) n listed' = true ∧ Lq a' w') f listed a w
  | .done, 0, S, listed, a, w, inv, hB, hS, h => ⟨hB, h⟩
  | .done, _ + 1, _, _, _, _, _, hB, _, _ => by simp [trB] at hB
  | .take _ _, 0, _, _, _, _, _, hB, _, _ => by simp [trB] at hB
  | .one _ _, 0, _, _, _, _, _, hB, _, _ => by simp [trB] at hB
  | .two _ _ _ _, 0, _, _, _, _, _, hB, _, _ => by simp [trB] at hB
  | .take i t, f + 1, S, listed, a, w, inv, hB, hS, h => by
    simp only [trB, Bool.and_eq_true, decide_eq_true_eq] at hB
    obtain ⟨⟨⟨hin, hr⟩, hf⟩, hB'⟩ := hB
    have h0 : ops[i]? = some (l.getD i noOper) := by
      subst hops
      have : i < l.length := by simp at hn; omega
      rw [List.getD_eq_getElem?_getD, List.getElem?_toArray, List.getElem?_eq_getElem this]; rfl
    have hr' : i ∈ Region.ready md ops listed := by simpa using hr
    obtain ⟨v, hy, hK⟩ := h
    subst hops
    exact wpAnyHL_first h0 (Region.noSelect_spec hsel) (fun c a w => hQ c a _ v w) hs hc hn hin (fun listed' a' w' hL => seqB_ready hL.1) f listed a w inv (Region.free_spec h0 hf) hr' hy hS
      (wpAnyHL_tr rfl hsel hs hc hn hQ t f S _ _ w (inv.set hr' hin) hB' hS hK)
  | .one i t, f + 1, S, listed, a, w, inv, hB, hS, h => by
    simp only [trB, Bool.and_eq_true, decide_eq_true_eq] at hB
    obtain ⟨⟨hin, hr⟩, hB'⟩ := hB
    have h0 : ops[i]? = some (l.getD i noOper) := by
      subst hops
      have : i < l.length := by simp at hn; omega
      rw [List.getD_eq_getElem?_getD, List.getElem?_toArray, List.getElem?_eq_getElem this]; rfl
    have hr' : i ∈ Region.ready md ops listed := by rw [hr]; simp
    refine ⟨by rw [hr]; simp, fun j hj => ?_⟩
    have hji : j = i := by rw [hr] at hj; simpa using hj
    subst hji
    subst hops
    refine ⟨hin, wpOp_of_one h0 (fun a' w' hh => ?_) h⟩
    obtain ⟨S', h1, h2, h3⟩ := hh
    exact ⟨h1 _ h2, wpAnyHL_mono h1 f _ a' w' (wpAnyHL_tr rfl hsel hs hc hn hQ t f S' _ a' w' (inv.set hr' hin) hB' h2 h3)⟩
  | .two i t j s, f + 1, S, listed, a, w, inv, hB, hS, h => by
    simp only [trB, Bool.and_eq_true, decide_eq_true_eq] at hB
    obtain ⟨⟨⟨⟨hin, hjn⟩, hr⟩, hB1⟩, hB2⟩ := hB
    have h0 : ∀ i, i < n → ops[i]? = some (l.getD i noOper) := by
      intro i hin
      subst hops
      have : i < l.length := by simp at hn; omega
      rw [List.getD_eq_getElem?_getD, List.getElem?_toArray, List.getElem?_eq_getElem this]; rfl
    have hri : i ∈ Region.ready md ops listed := by rw [hr]; simp
    have hrj : j ∈ Region.ready md ops listed := by rw [hr]; simp
    refine ⟨by rw [hr]; simp, fun k hk => ?_⟩
    have hk' : k = i ∨ k = j := by rw [hr] at hk; simpa using hk
    have h0i := h0 i hin
    have h0j := h0 j hjn
    clear h0
    subst hops
    rcases hk' with rfl | rfl
    · refine ⟨hin, wpOp_of_one h0i (fun a' w' hh => ?_) h.1⟩
      obtain ⟨S', h1, h2, h3⟩ := hh
      exact ⟨h1 _ h2, wpAnyHL_mono h1 f _ a' w' (wpAnyHL_tr rfl hsel hs hc hn hQ t f S' _ a' w' (inv.set hri hin) hB1 h2 h3)⟩
    · refine ⟨hjn, wpOp_of_one h0j (fun a' w' hh => ?_) h.2⟩
      obtain ⟨S', h1, h2, h3⟩ := hh
      exact ⟨h1 _ h2, wpAnyHL_mono h1 f _ a' w' (wpAnyHL_tr rfl hsel hs hc hn hQ s f S' _ a' w' (inv.set hrj hjn) hB2 h2 h3)⟩
theorem wp_head_tr {id : Nat} {a : Act} {w : World} {l : List Oper} (n : Nat) (t : Tr) (S : World → Prop) (hm : P.follows .mixedOrders = true) (hB : trTailB .any l.toArray n t = true)
    (hQ : ∀ c a d v w, Q (.panic c) (Act.put a d v) w → Q (.panic c) a w) (hS : S w.drew)
    (h : wpTr P l.toArray Q (fun a' w' => wpList P l.toArray Q (l.drop n) a' w') (t.on l) S a w.drew) : (Code.region id l.toArray true).wp P Q a w := by
  simp only [trTailB, Bool.and_eq_true, decide_eq_true_eq] at hB
  obtain ⟨⟨⟨⟨hsel, hn⟩, hs⟩, hc⟩, hlex⟩ := hB
  have hdl : (l.drop n).length = l.toArray.size - n := by simp
  have inv0 : HeadInv .any l.toArray n (Array.replicate l.toArray.size false) :=
    ⟨by simp, fun j oj _ hl => (by rw [getD_replicate_false] at hl; cases hl), fun t _ ht => getD_in (by simpa using ht) (getD_replicate_false _ _)⟩
  have H := wpAnyHL_tr (md := .any) (l := l) rfl hsel hs hc hn hQ t n S _ a w.drew inv0 hlex hS h
  refine wp_region_any hm ?_
  have := wpAny_of_headHL (Q := Q) (g := l.toArray.size - n) (fun listed a' w' hL => by
    have h1 := wpAny_of_seq (Q' := Q) (l.drop n) n listed a' w' (fun j => by simp) (by rw [hdl]; exact hL.1) hL.2
    rw [hdl] at h1
    exact h1) n _ _ _ H
  rw [show n + (l.toArray.size - n) = l.toArray.size by omega] at this
  exact this
/-! ### The steps -/
variable {S : World → Prop} {L : Act → World → Prop} {o u : Oper} {t s : TrO} {a : Act} {w : World}
theorem wpTr_done (h : L a w) : wpTr P ops Q L .done S a w := h
theorem wpTr_take (v : Value) (hg : Region.wanted o (yielded ops a.tmps) = true) (hy : ∀ W, S W → (execOp a.eval o).run P W = .ok (.value v) W)
    (h : wpTr P ops Q L t S (a.put o.dst v) w) : wpTr P ops Q L (.take o t) S a w := ⟨v, .inl ⟨hg, fun W hW => .inl (hy W hW)⟩, h⟩
theorem wpTr_one (h : ∀ K : Act → World → Prop, (∀ (S' : World → Prop) a w, (∀ W, S' W → S W) → S' w → wpTr P ops Q L t S' a w → K a w) → wpOne P ops Q o K a w) : wpTr P ops Q L (.one o t) S a w :=
  h _ (fun S' a w h1 h2 h3 => ⟨S', h1, h2, h3⟩)
theorem wpTr_two (h1 : wpTr P ops Q L (.one o t) S a w) (h2 : wpTr P ops Q L (.one u s) S a w) : wpTr P ops Q L (.two o t u s) S a w := ⟨h1, h2⟩
theorem wpOne_plain {K : Act → World → Prop} (hg : o.guard = none) (h : o.wp P a w K Q) : wpOne P ops Q o K a w := by
  unfold wpOne
  rw [if_pos (by simp [Region.wanted, hg])]
  exact h
end
end Go.Proofs.YtbdhicjebeoakaaDoor
