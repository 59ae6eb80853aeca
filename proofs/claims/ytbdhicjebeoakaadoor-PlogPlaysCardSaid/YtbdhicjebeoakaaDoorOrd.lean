/- A region that draws its order, walked in an order of one's own: what yields the same value in every world that meets S may be taken first; what changes the world must come up alone behind it. -/
import Derived.Test.YtbdhicjebeoakaaDoorHead
set_option linter.unusedVariables false
namespace Go.Proofs.YtbdhicjebeoakaaDoor
section
variable {P : Program} {ops : Array Oper} {md : Region.Mode} {Q : Exit → Act → World → Prop} {S : World → Prop}
def noOper : Oper := { dst := none, op := .move (.tmp 0), type := 0, pos := "", after := #[], guard := none }
def ordB (md : Region.Mode) (ops : Array Oper) (n : Nat) : List Nat → List Bool → Array Bool → Bool
  | [], [], listed => Region.seqB md ops (ops.size - n) n listed
  | i :: r, true :: m, listed => decide (i < n) && (Region.ready md ops listed).contains i && Region.free md ops listed i && ordB md ops n r m (listed.setIfInBounds i true)
  | i :: r, false :: m, listed => decide (i < n) && decide (Region.ready md ops listed = [i]) && ordB md ops n r m (listed.setIfInBounds i true)
  | _, _, _ => false
def ordTailB (md : Region.Mode) (ops : Array Oper) (n : Nat) (ord : List Nat) (mask : List Bool) : Bool :=
  Region.noSelect ops && decide (n < ops.size) && decide (ord.length = n) && Region.sinkB md ops n && Region.chainB md ops n && ordB md ops n ord mask (Array.replicate ops.size false)
theorem wpAnyHL_ord {l : List Oper} {n : Nat} {Lq : Act → World → Prop} (hops : ops = l.toArray) (hsel : Region.noSelect ops = true) (hs : Region.sinkB md ops n = true) (hc : Region.chainB md ops n = true) (hn : n < ops.size)
    (hQ : ∀ c a d v w, Q (.panic c) (Act.put a d v) w → Q (.panic c) a w) :
    ∀ (ord : List Nat) (m : List Bool) (listed : Array Bool) (a : Act) (w : World), HeadInv md ops n listed →
    ordB md ops n ord m listed = true → S w → wpHead P ops Q S Lq (ord.map fun i => l.getD i noOper) m a w →
    wpAnyHL P md ops Q S n (fun listed' a' w' => Region.seqB md ops (ops.size - n) n listed' = true ∧ Lq a' w') ord.length listed a w
  | [], [], listed, a, w, inv, hB, hS, h => ⟨hB, h⟩
  | [], _ :: _, _, _, _, _, hB, _, _ => by simp [ordB] at hB
  | _ :: _, [], _, _, _, _, hB, _, _ => by simp [ordB] at hB
  | i :: r, true :: m, listed, a, w, inv, hB, hS, h => by
    simp only [ordB, Bool.and_eq_true, decide_eq_true_eq] at hB
    obtain ⟨⟨⟨hin, hr⟩, hf⟩, hB'⟩ := hB
    have h0 : ops[i]? = some (l.getD i noOper) := by
      subst hops
      have : i < l.length := by simp at hn; omega
      rw [List.getD_eq_getElem?_getD, List.getElem?_toArray, List.getElem?_eq_getElem this]; rfl
    have hr' : i ∈ Region.ready md ops listed := by simpa using hr
    simp only [List.map_cons] at h
    unfold wpHead at h
    obtain ⟨v, hy, hK⟩ := h
    exact wpAnyHL_first h0 (Region.noSelect_spec hsel) (fun c a w => hQ c a _ v w) hs hc hn hin (fun listed' a' w' hL => seqB_ready hL.1) r.length listed a w inv (Region.free_spec h0 hf) hr' hy hS
      (wpAnyHL_ord hops hsel hs hc hn hQ r m _ _ w (inv.set hr' hin) hB' hS hK)
  | i :: r, false :: m, listed, a, w, inv, hB, hS, h => by
    simp only [ordB, Bool.and_eq_true, decide_eq_true_eq] at hB
    obtain ⟨⟨hin, hr⟩, hB'⟩ := hB
    have h0 : ops[i]? = some (l.getD i noOper) := by
      subst hops
      have : i < l.length := by simp at hn; omega
      rw [List.getD_eq_getElem?_getD, List.getElem?_toArray, List.getElem?_eq_getElem this]; rfl
    have hr' : i ∈ Region.ready md ops listed := by rw [hr]; simp
    refine ⟨by rw [hr]; simp, fun j hj => ?_⟩
    have hji : j = i := by rw [hr] at hj; simpa using hj
    subst hji
    refine ⟨hin, ?_⟩
    have next : ∀ a' w', S w' ∧ wpHead P ops Q S Lq (r.map fun i => l.getD i noOper) m a' w' → wpAnyHL P md ops Q S n (fun listed' a' w' => Region.seqB md ops (ops.size - n) n listed' = true ∧ Lq a' w') r.length (listed.setIfInBounds j true) a' w' := fun a' w' hh =>
      wpAnyHL_ord hops hsel hs hc hn hQ r m _ a' w' (inv.set hr' hin) hB' hh.1 hh.2
    unfold wpOp
    simp only [h0]
    simp only [List.map_cons] at h
    unfold wpHead at h
    split
    · rename_i hw
      rw [if_pos hw] at h
      exact .inl (Oper.wp_mono (fun a' w' hh => ⟨hh.1, next a' w' hh⟩) h)
    · rename_i hw
      rw [if_neg hw] at h
      exact ⟨hS, next _ _ ⟨hS, h⟩⟩
theorem wp_head_ord {id : Nat} {a : Act} {w : World} {l : List Oper} (n : Nat) (ord : List Nat) (mask : List Bool) (S : World → Prop) (hm : P.follows .mixedOrders = true) (hB : ordTailB .any l.toArray n ord mask = true)
    (hQ : ∀ c a d v w, Q (.panic c) (Act.put a d v) w → Q (.panic c) a w) (hS : S w.drew)
    (h : wpHead P l.toArray Q S (fun a' w' => wpList P l.toArray Q (l.drop n) a' w') (ord.map fun i => l.getD i noOper) mask a w.drew) : (Code.region id l.toArray true).wp P Q a w := by
  simp only [ordTailB, Bool.and_eq_true, decide_eq_true_eq] at hB
  obtain ⟨⟨⟨⟨⟨hsel, hn⟩, hol⟩, hs⟩, hc⟩, hlex⟩ := hB
  have hdl : (l.drop n).length = l.toArray.size - n := by simp
  have inv0 : HeadInv .any l.toArray n (Array.replicate l.toArray.size false) :=
    ⟨by simp, fun j oj _ hl => (by rw [getD_replicate_false] at hl; cases hl), fun t _ ht => getD_in (by simpa using ht) (getD_replicate_false _ _)⟩
  have H := wpAnyHL_ord (md := .any) (l := l) rfl hsel hs hc hn hQ ord mask _ a w.drew inv0 hlex hS h
  refine wp_region_any hm ?_
  have := wpAny_of_headHL (Q := Q) (g := l.toArray.size - n) (fun listed a' w' hL => by
    have h1 := wpAny_of_seq (Q' := Q) (l.drop n) n listed a' w' (fun j => by simp) (by rw [hdl]; exact hL.1) hL.2
    rw [hdl] at h1
    exact h1) ord.length _ _ _ H
  rw [hol, show n + (l.toArray.size - n) = l.toArray.size by omega] at this
  exact this
end
end Go.Proofs.YtbdhicjebeoakaaDoor
