/- A region that draws its order, in one walk in the order of the text: a head, in which what yields the same value in every world that meets S may be taken first and what changes the world is forced, then a tail in which each operation waits for the one before it. -/
import Derived.StillTail
import Derived.OrdersHeld
import Derived.KernelRfl
set_option linter.unusedVariables false
namespace Go.Proofs.YtbdhicjebeoakaaDoor
section
variable {P : Program} {ops : Array Oper} {md : Region.Mode} {Q : Exit → Act → World → Prop} {S : World → Prop}

/-- In every world that meets S the operation leaves v in its temporary and the world as it is: by itself, or by a call that only reads. -/
def YieldsC (P : Program) (ops : Array Oper) (S : World → Prop) (o : Oper) (v : Value) (a : Act) : Prop :=
  (Region.wanted o (yielded ops a.tmps) = true ∧ ∀ w, S w → ((execOp a.eval o).run P w = .ok (.value v) w ∨
    ∃ f args, (execOp a.eval o).run P w = .ok (.enter f args) w ∧ Calls P f args w (fun e w'' => e = .returned v ∧ w'' = w))) ∨
  (Region.wanted o (yielded ops a.tmps) = false ∧ v = undef)
theorem YieldsC.wpOp {i : Nat} {o : Oper} {v : Value} {a : Act} (hi : ops[i]? = some o) (hy : YieldsC P ops S o v a)
    {K : Act → World → Prop} {w : World} (hS : S w) (h : K (a.put o.dst v) w) : wpOp P ops Q i K a w := by
  unfold Go.wpOp
  simp only [hi]
  rcases hy with ⟨hw, hv⟩ | ⟨hw, rfl⟩
  · simp only [hw, if_true]
    refine .inl ?_
    rcases hv w hS with hv | ⟨f, args, hv, hc⟩
    · simp only [Oper.wp, hv, Oper.upon]; exact h
    · simp only [Oper.wp, hv, Oper.upon]
      exact hc.mono fun e w'' ⟨he, hw⟩ => by subst he; subst hw; exact h
  · simp only [hw, Bool.false_eq_true, if_false]; exact h
theorem YieldsC.of_same {o : Oper} {v : Value} {a a' : Act} (hy : YieldsC P ops S o v a) (he : execOp a'.eval o = execOp a.eval o)
    (hw : Region.wanted o (yielded ops a'.tmps) = Region.wanted o (yielded ops a.tmps)) : YieldsC P ops S o v a' := by
  unfold YieldsC at *
  rw [he, hw]
  exact hy
theorem wpOp_putC {j : Nat} {oi oj : Oper} {v : Value} (hj : ops[j]? = some oj) (hap : oi.apart ops oj = true)
    (hsi : ∀ cs b, oi.op ≠ .select cs b) (hsj : ∀ cs b, oj.op ≠ .select cs b)
    (hQ : ∀ c a w, Q (.panic c) (a.put oi.dst v) w → Q (.panic c) a w) {K : Act → World → Prop} {a : Act} {w : World}
    (hy : YieldsC P ops S oi v a) (h : wpOp P ops Q j K (a.put oi.dst v) w) :
    wpOp P ops Q j (fun a' w' => YieldsC P ops S oi v a' ∧ K (a'.put oi.dst v) w') a w := by
  obtain ⟨h1, h2, h3⟩ := Oper.apart_spec hap
  have keep : ∀ (a : Act), YieldsC P ops S oi v a → ∀ u, YieldsC P ops S oi v (a.put oj.dst u) := fun a hy u =>
    hy.of_same (execOp_put oi hsi a oj.dst u h3) (wanted_put oi a oj.dst u h3)
  have keepD : ∀ d, YieldsC P ops S oi v { a with defers := d :: a.defers } := fun d => hy.of_same rfl rfl
  unfold wpOp at *
  simp only [hj] at *
  rw [wanted_put oj a oi.dst v h1] at h
  split
  · rename_i hw
    simp only [hw, if_true] at h
    rcases h with h | ⟨hasks, hlets⟩
    case inr => exact .inr ⟨by unfold Oper.asks at *; rw [execOp_put oj hsj a oi.dst v h1] at hasks; exact hasks, hlets⟩
    refine .inl ?_
    unfold Oper.wp at *
    rw [execOp_put oj hsj a oi.dst v h1] at h
    generalize (execOp a.eval oj).run P w = r at *
    cases r with
    | ok n w' =>
      cases n <;> simp only [Oper.upon] at h ⊢
      case value u => exact ⟨keep a hy u, by rw [← Act.put_comm a v u h2]; exact h⟩
      case skip => exact ⟨keep a hy _, by rw [← Act.put_comm a v undef h2]; exact h⟩
      case defer d =>
        refine ⟨keep _ (keepD d) _, ?_⟩
        rw [← Act.put_comm _ v undef h2, ← Act.put_defers]
        exact h
      case enter f args =>
        refine Calls.mono h fun e w'' he => ?_
        cases e with
        | returned u => exact ⟨keep a hy u, by rw [← Act.put_comm a v u h2]; exact he⟩
        | panicked c => exact hQ _ _ _ he
        | outgrown => exact he
      case row row args => exact Rows.mono h fun u w'' he => ⟨keep a hy u, by rw [← Act.put_comm a v u h2]; exact he⟩
    | halt x w' =>
      cases x <;> simp only [Oper.upon] at h ⊢
      case panic u => exact hQ _ _ _ h
  · rename_i hw
    simp only [hw] at h
    exact ⟨keep a hy _, by rw [← Act.put_comm a v undef h2]; exact h⟩

def wpAnyHL (P : Program) (md : Region.Mode) (ops : Array Oper) (Q : Exit → Act → World → Prop) (S : World → Prop) (n : Nat) (L : Array Bool → Act → World → Prop) : Nat → Array Bool → Act → World → Prop
  | 0, listed, a, w => L listed a w
  | f + 1, listed, a, w =>
    Region.ready md ops listed ≠ [] ∧ ∀ i ∈ Region.ready md ops listed, i < n ∧ wpOp P ops Q i (fun a' w' => S w' ∧ wpAnyHL P md ops Q S n L f (listed.setIfInBounds i true) a' w') a w

theorem wpAny_of_headHL {n g : Nat} {L : Array Bool → Act → World → Prop} (hL : ∀ listed a w, L listed a w → wpAny P md ops Q g listed a w) :
    ∀ (f : Nat) (listed : Array Bool) (a : Act) (w : World), wpAnyHL P md ops Q S n L f listed a w → wpAny P md ops Q (f + g) listed a w
  | 0, listed, a, w, h => by rw [Nat.zero_add]; exact hL _ _ _ h
  | f + 1, listed, a, w, h => by
    rw [show f + 1 + g = (f + g) + 1 by omega]
    exact ⟨fun h0 => absurd h0 h.1, fun i hi => wpOp_mono (fun a' w' h' => wpAny_of_headHL hL f _ a' w' h'.2) (h.2 i hi).2⟩

theorem wpAnyHL_first {n i : Nat} {oi : Oper} {v : Value} {L : Array Bool → Act → World → Prop} (hi : ops[i]? = some oi) (hsel : ∀ (j : Nat) (o : Oper) cs b, ops[j]? = some o → o.op ≠ .select cs b)
    (hQ : ∀ c a w, Q (.panic c) (a.put oi.dst v) w → Q (.panic c) a w)
    (hs : Region.sinkB md ops n = true) (hc : Region.chainB md ops n = true) (hn : n < ops.size) (hin : i < n)
    (hdone : ∀ listed a w, L listed a w → ∀ j ∈ Region.ready md ops listed, n ≤ j) :
    ∀ (f : Nat) (listed : Array Bool) (a : Act) (w : World), HeadInv md ops n listed →
      (∀ j oj, ops[j]? = some oj → j ≠ i → listed.getD j true = false → (∀ e ∈ oj.after, Region.binds md e = true → e.on ≠ i) → oi.apart ops oj = true) →
      i ∈ Region.ready md ops listed → YieldsC P ops S oi v a → S w →
      wpAnyHL P md ops Q S n L f (listed.setIfInBounds i true) (a.put oi.dst v) w → wpAnyHL P md ops Q S n L (f + 1) listed a w := by
  intro f
  induction f with
  | zero =>
    intro listed a w inv _ hr hy hS H
    have hun := (mem_ready.1 hr).1
    refine ⟨fun h => (by rw [h] at hr; cases hr), fun j hj => ?_⟩
    have hjn : j < n := by
      rcases Nat.lt_or_ge j n with h | h
      · exact h
      · exact absurd hj (tail_waits hs hc hn inv _ i rfl hin hun j h)
    refine ⟨hjn, ?_⟩
    by_cases hji : j = i
    · subst hji; exact hy.wpOp hi hS ⟨hS, H⟩
    · have := hdone _ _ _ H j (ready_mono hj hji)
      omega
  | succ f ih =>
    intro listed a w inv hfree hr hy hS H
    have hun := (mem_ready.1 hr).1
    refine ⟨fun h => (by rw [h] at hr; cases hr), fun j hj => ?_⟩
    have hjn : j < n := by
      rcases Nat.lt_or_ge j n with h | h
      · exact h
      · exact absurd hj (tail_waits hs hc hn inv _ i rfl hin hun j h)
    refine ⟨hjn, ?_⟩
    by_cases hji : j = i
    · subst hji; exact hy.wpOp hi hS ⟨hS, H⟩
    · have h1 := (H.2 j (ready_mono hj hji)).2
      obtain ⟨hjun, oj, hoj, hall⟩ := mem_ready.1 hj
      have hnot : ∀ e ∈ oj.after, Region.binds md e = true → e.on ≠ i := fun e he hb heq => by
        have h1 := hall e he hb
        rw [heq, getD_both hun] at h1
        cases h1
      have h2 := wpOp_putC hoj (hfree j oj hoj hji hjun hnot) (fun cs b => hsel i oi cs b hi) (fun cs b => hsel j oj cs b hoj) hQ hy h1
      have hfree' : ∀ k ok, ops[k]? = some ok → k ≠ i → (listed.setIfInBounds j true).getD k true = false →
          (∀ e ∈ ok.after, Region.binds md e = true → e.on ≠ i) → oi.apart ops ok = true := fun k ok hk hki hun hno => by
        refine hfree k ok hk hki ?_ hno
        by_cases hjk : j = k
        · subst hjk; exact hjun
        · rw [getD_set_ne true hjk] at hun; exact hun
      refine wpOp_mono (fun a' w' h3 => ⟨h3.2.1, ih (listed.setIfInBounds j true) a' w' (inv.set hj hjn) hfree' (ready_mono hr (Ne.symm hji)) h3.1 h3.2.1 ?_⟩) h2
      rw [Array.setIfInBounds_comm _ _ hji]
      exact h3.2.2

/-- The walk through the head: 'true': taken first; 'false': it comes up alone, and behind it S is shown anew. -/
def wpHead (P : Program) (ops : Array Oper) (Q : Exit → Act → World → Prop) (S : World → Prop) (L : Act → World → Prop) : List Oper → List Bool → Act → World → Prop
  | [], _, a, w => L a w
  | _ :: _, [], _, _ => False
  | o :: r, true :: m, a, w => ∃ v, YieldsC P ops S o v a ∧ wpHead P ops Q S L r m (a.put o.dst v) w
  | o :: r, false :: m, a, w => if Region.wanted o (yielded ops a.tmps) then o.wp P a w (fun a' w' => S w' ∧ wpHead P ops Q S L r m a' w') Q else wpHead P ops Q S L r m (a.put o.dst undef) w
/-- One more than the last operation that o waits for. -/
def mxOf (md : Region.Mode) (o : Oper) : Nat := o.after.toList.foldr (fun e m => if Region.binds md e then Nat.max m (e.on + 1) else m) 0
theorem mxOf_le {o : Oper} {k : Nat} : mxOf md o ≤ k ↔ ∀ e ∈ o.after, Region.binds md e = true → e.on < k := by
  have h : ∀ l : List Edge, l.foldr (fun e m => if Region.binds md e then Nat.max m (e.on + 1) else m) 0 ≤ k ↔ ∀ e ∈ l, Region.binds md e = true → e.on < k := by
    intro l
    induction l with
    | nil => simp
    | cons e r ih =>
      simp only [List.foldr_cons, List.mem_cons, forall_eq_or_imp]
      rw [← ih]
      by_cases hb : Region.binds md e = true
      · simp only [hb, if_true, forall_const]
        show Nat.max _ _ ≤ k ↔ _
        rw [Nat.max_le]
        omega
      · simp [hb]
  unfold mxOf
  rw [h]
  simp only [Array.mem_toList_iff]
def mxList (md : Region.Mode) (ops : Array Oper) : List Nat := ops.toList.map (mxOf md)
/-- The first k have come up. -/
structure PInv (ops : Array Oper) (k : Nat) (listed : Array Bool) : Prop where
  size : listed.size = ops.size
  pre : ∀ j, j < ops.size → ∀ b, listed.getD j b = decide (j < k)
theorem PInv.zero : PInv ops 0 (Array.replicate ops.size false) := ⟨by simp, fun j hj b => by simp [hj]⟩
theorem PInv.set {k : Nat} {listed : Array Bool} (h : PInv ops k listed) (hk : k < ops.size) : PInv ops (k + 1) (listed.setIfInBounds k true) := by
  refine ⟨by simp [h.size], fun j hj b => ?_⟩
  by_cases hjk : k = j
  · subst hjk
    have : k < listed.size := by rw [h.size]; exact hk
    simp [this]
  · rw [getD_set_ne b hjk, h.pre j hj b]
    simp only [decide_eq_decide]
    omega
theorem PInv.ready {k j : Nat} {listed : Array Bool} (h : PInv ops k listed) (hk : k ≤ ops.size) : j ∈ Region.ready md ops listed ↔ ∃ oj, ops[j]? = some oj ∧ k ≤ j ∧ mxOf md oj ≤ k := by
  rw [mem_ready]
  constructor
  · rintro ⟨h1, oj, h2, h3⟩
    have hj : j < ops.size := (Array.getElem?_eq_some_iff.1 h2).1
    rw [h.pre j hj] at h1
    refine ⟨oj, h2, by simpa using h1, mxOf_le.2 fun e he hb => ?_⟩
    have h4 := h3 e he hb
    by_cases hs : e.on < ops.size
    · rw [h.pre _ hs] at h4; simpa using h4
    · have : listed.getD e.on false = false := by simp [Array.getElem?_eq_none (show listed.size ≤ e.on by rw [h.size]; omega)]
      rw [this] at h4; cases h4
  · rintro ⟨oj, h2, h1, h3⟩
    have hj : j < ops.size := (Array.getElem?_eq_some_iff.1 h2).1
    refine ⟨by rw [h.pre j hj]; simpa using h1, oj, h2, fun e he hb => ?_⟩
    have := mxOf_le.1 h3 e he hb
    rw [h.pre _ (by omega)]; simpa using this
theorem mx_at {k m : Nat} {r : List Nat} (h : (mxList md ops).drop k = m :: r) : ∃ o, ops[k]? = some o ∧ mxOf md o = m ∧ (mxList md ops).drop (k + 1) = r := by
  have hk : k < (mxList md ops).length := by
    rcases Nat.lt_or_ge k (mxList md ops).length with h' | h'
    · exact h'
    · rw [List.drop_of_length_le h'] at h; cases h
  rw [List.drop_eq_getElem_cons hk] at h
  injection h with h1 h2
  have hk' : k < ops.size := by simpa [mxList] using hk
  refine ⟨ops[k], by simp [hk'], ?_, h2⟩
  rw [← h1]
  simp [mxList]
theorem mx_later {k j : Nat} {r : List Nat} {oj : Oper} (h : (mxList md ops).drop (k + 1) = r) (hj : ops[j]? = some oj) (hkj : k < j) : mxOf md oj ∈ r := by
  rw [← h]
  have hj' := (Array.getElem?_eq_some_iff.1 hj).1
  have : (mxList md ops)[j]? = some (mxOf md oj) := by simp [mxList, hj]
  refine List.mem_iff_getElem?.2 ⟨j - (k + 1), ?_⟩
  rw [List.getElem?_drop, show k + 1 + (j - (k + 1)) = j by omega]
  exact this
/-- k comes up alone. -/
theorem PInv.solo {k m : Nat} {r : List Nat} {listed : Array Bool} (h : PInv ops k listed) (hd : (mxList md ops).drop k = m :: r) (h1 : m ≤ k) (h2 : r.all (fun x => decide (k < x)) = true) : Region.ready md ops listed = [k] := by
  obtain ⟨o, ho, hm, hr⟩ := mx_at hd
  have hk : k < ops.size := (Array.getElem?_eq_some_iff.1 ho).1
  have hmem : ∀ j, j ∈ Region.ready md ops listed ↔ j = k := by
    intro j
    rw [h.ready (by omega)]
    constructor
    · rintro ⟨oj, hj, hkj, hmx⟩
      rcases Nat.lt_or_ge k j with h' | h'
      · have := List.all_eq_true.1 h2 _ (mx_later hr hj h')
        simp only [decide_eq_true_eq] at this
        omega
      · omega
    · rintro rfl
      exact ⟨o, ho, Nat.le_refl _, by omega⟩
  have hnd : (Region.ready md ops listed).Nodup := List.Pairwise.filter _ List.nodup_range
  match hl : Region.ready md ops listed with
  | [] => rw [hl] at hmem; have := (hmem k).2 rfl; cases this
  | [x] => rw [hl] at hmem; have := (hmem x).1 (by simp); rw [this]
  | x :: y :: t =>
    rw [hl] at hmem hnd
    have hx := (hmem x).1 (by simp)
    have hy := (hmem y).1 (by simp)
    rw [hx, hy] at hnd
    simp at hnd
theorem PInv.empty {k : Nat} {listed : Array Bool} (h : PInv ops k listed) (hk : k = ops.size) : Region.ready md ops listed = [] := by
  match hl : Region.ready md ops listed with
  | [] => rfl
  | x :: t =>
    obtain ⟨oj, hj, hkj, _⟩ := (h.ready (md := md) (j := x) (by omega)).1 (by rw [hl]; simp)
    have := (Array.getElem?_eq_some_iff.1 hj).1
    omega
def seqS : List Nat → Nat → Bool
  | [], _ => true
  | m :: r, k => decide (m ≤ k) && r.all (fun x => decide (k < x)) && seqS r (k + 1)
theorem seqS_seqB : ∀ (ms : List Nat) (k : Nat) (listed : Array Bool), PInv ops k listed → (mxList md ops).drop k = ms → k + ms.length = ops.size → seqS ms k = true → Region.seqB md ops ms.length k listed = true
  | [], k, listed, hp, _, hk, _ => by
    simp only [List.length_nil, Region.seqB, List.isEmpty_iff]
    exact hp.empty (by simpa using hk)
  | m :: r, k, listed, hp, hd, hk, hB => by
    simp only [seqS, Bool.and_eq_true, decide_eq_true_eq] at hB
    obtain ⟨⟨h1, h2⟩, h3⟩ := hB
    obtain ⟨o, ho, hm, hr⟩ := mx_at hd
    simp only [List.length_cons, Region.seqB, Bool.and_eq_true, decide_eq_true_eq]
    exact ⟨hp.solo hd h1 h2, seqS_seqB r (k + 1) _ (hp.set (Array.getElem?_eq_some_iff.1 ho).1) hr (by simp at hk; omega) h3⟩
/-- Nobody from k on who does not wait for it touches what k touches. -/
def freeS (md : Region.Mode) (ops : Array Oper) (k : Nat) : Bool :=
  match ops[k]? with
  | none => false
  | some ok => (ops.toList.drop (k + 1)).all fun oj => oj.after.any (fun e => Region.binds md e && e.on == k) || ok.apart ops oj
def headS (md : Region.Mode) (ops : Array Oper) : List Bool → List Nat → Nat → Bool
  | [], ms, k => seqS ms k
  | _ :: _, [], _ => false
  | false :: b, m :: r, k => decide (m ≤ k) && r.all (fun x => decide (k < x)) && headS md ops b r (k + 1)
  | true :: b, m :: r, k => decide (m ≤ k) && freeS md ops k && headS md ops b r (k + 1)
def headTailB (md : Region.Mode) (ops : Array Oper) (n : Nat) (mask : List Bool) : Bool :=
  Region.noSelect ops && decide (n < ops.size) && decide (mask.length = n) && Region.sinkB md ops n && Region.chainB md ops n && headS md ops mask (mxList md ops) 0

theorem wpAnyHL_lex {n : Nat} {Lq : Act → World → Prop} (hsel : Region.noSelect ops = true) (hs : Region.sinkB md ops n = true) (hc : Region.chainB md ops n = true) (hn : n < ops.size)
    (hQ : ∀ c a d v w, Q (.panic c) (Act.put a d v) w → Q (.panic c) a w) :
    ∀ (l : List Oper) (m : List Bool) (ms : List Nat) (k : Nat) (listed : Array Bool) (a : Act) (w : World), (∀ j, j < l.length → l[j]? = ops[k + j]?) → k + l.length = n → m.length = l.length → (mxList md ops).drop k = ms → PInv ops k listed → HeadInv md ops n listed →
    headS md ops m ms k = true → S w → wpHead P ops Q S Lq l m a w →
    wpAnyHL P md ops Q S n (fun listed' a' w' => Region.seqB md ops (ops.size - n) n listed' = true ∧ Lq a' w') l.length listed a w
  | [], [], ms, k, listed, a, w, _, hk, _, hd, hp, _, hB, _, h => by
    have : k = n := by simpa using hk
    subst this
    have hl : ms.length = ops.size - k := by rw [← hd]; simp [mxList]
    refine ⟨?_, h⟩
    have := seqS_seqB ms k listed hp hd (by omega) (by simpa [headS] using hB)
    rwa [hl] at this
  | [], _ :: _, _, _, _, _, _, _, _, hm, _, _, _, _, _, _ => by simp at hm
  | _ :: _, [], _, _, _, _, _, _, _, hm, _, _, _, _, _, _ => by simp at hm
  | o :: l, true :: m, [], k, listed, a, w, hl, hk, hm, hd, hp, inv, hB, hS, h => by simp [headS] at hB
  | o :: l, false :: m, [], k, listed, a, w, hl, hk, hm, hd, hp, inv, hB, hS, h => by simp [headS] at hB
  | o :: l, true :: m, mk :: r, k, listed, a, w, hl, hk, hm, hd, hp, inv, hB, hS, h => by
    have h0 : ops[k]? = some o := by simpa using (hl 0 (by simp)).symm
    simp only [headS, Bool.and_eq_true, decide_eq_true_eq] at hB
    obtain ⟨⟨h1, hf⟩, hB'⟩ := hB
    obtain ⟨o', ho', hmo, hr⟩ := mx_at hd
    have hoo : o' = o := Option.some.inj (ho'.symm.trans h0)
    subst hoo
    have hkn : k < n := by simp only [List.length_cons] at hk; omega
    have hr' : k ∈ Region.ready md ops listed := (hp.ready (by omega)).2 ⟨o', h0, Nat.le_refl _, by omega⟩
    obtain ⟨v, hy, hK⟩ := h
    refine wpAnyHL_first h0 (Region.noSelect_spec hsel) (fun c a w => hQ c a _ v w) hs hc hn hkn (fun listed' a' w' hL => seqB_ready hL.1) l.length listed a w inv ?_ hr' hy hS
      (wpAnyHL_lex hsel hs hc hn hQ l m r (k + 1) _ _ w (fun j hj => by have := hl (j + 1) (by simp; omega); simpa [Nat.add_assoc, Nat.add_comm 1 j] using this) (by simp only [List.length_cons] at hk; omega) (by simpa using hm) hr (hp.set (by omega)) (inv.set hr' hkn) hB' hS hK)
    intro j oj hj hne hun hno
    have hj' := (Array.getElem?_eq_some_iff.1 hj).1
    rw [hp.pre j hj'] at hun
    have hkj : k < j := by have : ¬ j < k := by simpa using hun
                           omega
    simp only [freeS, h0, List.all_eq_true] at hf
    have h2 := hf oj (List.mem_iff_getElem?.2 ⟨j - (k + 1), by rw [List.getElem?_drop, show k + 1 + (j - (k + 1)) = j by omega]; simpa using hj⟩)
    simp only [Bool.or_eq_true] at h2
    rcases h2 with h2 | h2
    · obtain ⟨e, he, hb⟩ := Array.any_eq_true'.1 h2
      simp only [Bool.and_eq_true, beq_iff_eq] at hb
      exact absurd hb.2 (hno e he hb.1)
    · exact h2
  | o :: l, false :: m, mk :: r, k, listed, a, w, hl, hk, hm, hd, hp, inv, hB, hS, h => by
    have h0 : ops[k]? = some o := by simpa using (hl 0 (by simp)).symm
    simp only [headS, Bool.and_eq_true, decide_eq_true_eq] at hB
    obtain ⟨⟨hb1, hb2⟩, hB'⟩ := hB
    obtain ⟨o', ho', hmo, hr0⟩ := mx_at hd
    have hr := hp.solo hd hb1 hb2
    have hkn : k < n := by simp only [List.length_cons] at hk; omega
    have hr' : k ∈ Region.ready md ops listed := by rw [hr]; simp
    refine ⟨by rw [hr]; simp, fun i hi => ?_⟩
    have hik : i = k := by rw [hr] at hi; simpa using hi
    subst hik
    refine ⟨hkn, ?_⟩
    have next : ∀ a' w', S w' ∧ wpHead P ops Q S Lq l m a' w' → wpAnyHL P md ops Q S n (fun listed' a' w' => Region.seqB md ops (ops.size - n) n listed' = true ∧ Lq a' w') l.length (listed.setIfInBounds i true) a' w' := fun a' w' hh =>
      wpAnyHL_lex hsel hs hc hn hQ l m r (i + 1) _ a' w' (fun j hj => by have := hl (j + 1) (by simp; omega); simpa [Nat.add_assoc, Nat.add_comm 1 j] using this) (by simp only [List.length_cons] at hk; omega) (by simpa using hm) hr0 (hp.set (by omega)) (inv.set hr' hkn) hB' hh.1 hh.2
    unfold wpOp
    simp only [h0]
    unfold wpHead at h
    split
    · rename_i hw
      rw [if_pos hw] at h
      exact .inl (Oper.wp_mono (fun a' w' hh => ⟨hh.1, next a' w' hh⟩) h)
    · rename_i hw
      rw [if_neg hw] at h
      exact ⟨hS, next _ _ ⟨hS, h⟩⟩

theorem wp_head_tail {id : Nat} {a : Act} {w : World} {l : List Oper} (n : Nat) (mask : List Bool) (S : World → Prop) (hm : P.follows .mixedOrders = true) (hB : headTailB .any l.toArray n mask = true)
    (hQ : ∀ c a d v w, Q (.panic c) (Act.put a d v) w → Q (.panic c) a w) (hS : S w.drew)
    (h : wpHead P l.toArray Q S (fun a' w' => wpList P l.toArray Q (l.drop n) a' w') (l.take n) mask a w.drew) : (Code.region id l.toArray true).wp P Q a w := by
  simp only [headTailB, Bool.and_eq_true, decide_eq_true_eq] at hB
  obtain ⟨⟨⟨⟨⟨hsel, hn⟩, hml⟩, hs⟩, hc⟩, hlex⟩ := hB
  have hn' : n < l.length := by simpa using hn
  have htl : (l.take n).length = n := by simp; omega
  have hdl : (l.drop n).length = l.toArray.size - n := by simp
  have inv0 : HeadInv .any l.toArray n (Array.replicate l.toArray.size false) :=
    ⟨by simp, fun j oj _ hl => (by rw [getD_replicate_false] at hl; cases hl), fun t _ ht => getD_in (by simpa using ht) (getD_replicate_false _ _)⟩
  have H := wpAnyHL_lex (md := .any) hsel hs hc hn hQ (l.take n) mask _ 0 _ a w.drew (fun j hj => by
    have hj' : j < n := by rw [htl] at hj; exact hj
    simp [hj']) (by simpa using htl) (by rw [htl]; exact hml) rfl PInv.zero inv0 hlex hS h
  refine wp_region_any hm ?_
  have := wpAny_of_headHL (Q := Q) (g := l.toArray.size - n) (fun listed a' w' hL => by
    have h1 := wpAny_of_seq (Q' := Q) (l.drop n) n listed a' w' (fun j => by simp) (by rw [hdl]; exact hL.1) hL.2
    rw [hdl] at h1
    exact h1) (l.take n).length _ _ _ H
  rw [htl, show n + (l.toArray.size - n) = l.toArray.size by omega] at this
  exact this

/-! ### The steps -/
theorem wpHead_nil {L : Act → World → Prop} {m : List Bool} {a : Act} {w : World} (h : L a w) : wpHead P ops Q S L [] m a w := by
  unfold wpHead; exact h
/-- Taken first: it yields v in every world that meets S. -/
theorem wpHead_take {L : Act → World → Prop} {o : Oper} {r : List Oper} {m : List Bool} {a : Act} {w : World} (v : Value) (hg : o.guard = none) (hy : ∀ W, S W → (execOp a.eval o).run P W = .ok (.value v) W)
    (h : wpHead P ops Q S L r m (a.put o.dst v) w) : wpHead P ops Q S L (o :: r) (true :: m) a w := by
  unfold wpHead
  exact ⟨v, .inl ⟨by simp [Region.wanted, hg], fun W hW => .inl (hy W hW)⟩, h⟩
/-- It comes up alone. -/
theorem wpHead_force {L : Act → World → Prop} {o : Oper} {r : List Oper} {m : List Bool} {a : Act} {w : World} (hg : o.guard = none)
    (h : ∀ K : Act → World → Prop, (∀ a w, S w → wpHead P ops Q S L r m a w → K a w) → o.wp P a w K Q) : wpHead P ops Q S L (o :: r) (false :: m) a w := by
  unfold wpHead
  rw [if_pos (by simp [Region.wanted, hg])]
  exact h _ (fun a w h1 h2 => ⟨h1, h2⟩)
/-- The same, guarded or not. -/
theorem wpHead_take' {L : Act → World → Prop} {o : Oper} {r : List Oper} {m : List Bool} {a : Act} {w : World} (v : Value) (hg : Region.wanted o (yielded ops a.tmps) = true) (hy : ∀ W, S W → (execOp a.eval o).run P W = .ok (.value v) W)
    (h : wpHead P ops Q S L r m (a.put o.dst v) w) : wpHead P ops Q S L (o :: r) (true :: m) a w := by
  unfold wpHead
  exact ⟨v, .inl ⟨hg, fun W hW => .inl (hy W hW)⟩, h⟩
/-- A call that only reads, taken first. -/
theorem wpHead_call {L : Act → World → Prop} {o : Oper} {r : List Oper} {m : List Bool} {a : Act} {w : World} (v : Value) (f : FuncId) (args : Array Value) (hg : Region.wanted o (yielded ops a.tmps) = true) (hy : ∀ W, (execOp a.eval o).run P W = .ok (.enter f args) W)
    (hc : ∀ W, S W → Calls P f args W fun e w'' => e = .returned v ∧ w'' = W)
    (h : wpHead P ops Q S L r m (a.put o.dst v) w) : wpHead P ops Q S L (o :: r) (true :: m) a w := by
  unfold wpHead
  exact ⟨v, .inl ⟨hg, fun W hW => .inr ⟨f, args, hy W, hc W hW⟩⟩, h⟩
/-- It comes up alone, guarded or not. -/
theorem wpHead_step {L : Act → World → Prop} {o : Oper} {r : List Oper} {m : List Bool} {a : Act} {w : World}
    (h : ∀ K : Act → World → Prop, (∀ a w, S w → wpHead P ops Q S L r m a w → K a w) → if Region.wanted o (yielded ops a.tmps) then o.wp P a w K Q else K (a.put o.dst undef) w) (hS : S w) : wpHead P ops Q S L (o :: r) (false :: m) a w := by
  have h1 := h (fun a' w' => S w' ∧ wpHead P ops Q S L r m a' w') (fun a w h1 h2 => ⟨h1, h2⟩)
  unfold wpHead
  split
  · rename_i hw; rw [if_pos hw] at h1; exact h1
  · rename_i hw; rw [if_neg hw] at h1; exact h1.2
end
end Go.Proofs.YtbdhicjebeoakaaDoor
