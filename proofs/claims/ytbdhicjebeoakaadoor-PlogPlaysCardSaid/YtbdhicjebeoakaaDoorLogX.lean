/- A log and its disk beside the reference's log, through failures of power. -/
import Derived.Test.YtbdhicjebeoakaaDoorRLog
set_option linter.unusedVariables false
set_option linter.unusedSimpArgs false
namespace Go.Proofs.YtbdhicjebeoakaaDoor
open Go.RowKit

/-- The reference's log, beside. -/
def TR (rb : Nat) (M : LSt) : World → (Nat → Prop) → Prop := fun w E => IsRLog w E rb M
/-- The reference's log and its copy. -/
def TR2 (rb : Nat) (M : LSt) (cb : Nat) (N : LSt) : World → (Nat → Prop) → Prop := fun w E => ∃ E1 E2 : Nat → Prop, (∀ k, E1 k → E k) ∧ (∀ k, E2 k → E k) ∧ (∀ k, E1 k → ¬ E2 k) ∧ IsRLog w E1 rb M ∧ IsRLog w E2 cb N
theorem framedR (rb : Nat) (M : LSt) : Framed (TR rb M) := fun w w' E G h hE hf hd => IsRLog.frame h hf hd
theorem framedR2 (rb : Nat) (M : LSt) (cb : Nat) (N : LSt) : Framed (TR2 rb M cb N) := fun w w' E G h hE hf hd => by
  obtain ⟨E1, E2, h1, h2, h3, h4, h5⟩ := h
  exact ⟨E1, E2, h1, h2, h3, h4.frame hf (fun k hk => hd k (h1 k hk)), h5.frame hf (fun k hk => hd k (h2 k hk))⟩
section
variable {T T' : World → (Nat → Prop) → Prop} {W w w' : World} {lb db rb cb : Nat} {L M N : LSt} {d d' : DSt} {k : Nat}
theorem Duo.weak (h : Duo T W w lb db L d) (ht : ∀ E : Nat → Prop, T w E → ∃ E' : Nat → Prop, (∀ k, E' k → E k) ∧ T' w E') : Duo T' W w lb db L d := by
  obtain ⟨F, G, E, h1, h2, h3, h4, h5, h6, h7, h8, h9⟩ := h.all
  obtain ⟨E', hE, ht'⟩ := ht E h9
  exact ⟨h.below, F, G, E', h1, h2, fun k hk => h3 k (hE k hk), h4, fun k hk => h5 k (hE k hk), fun k hk => h6 k (hE k hk), h7, h8, ht'⟩
theorem Duo.first (h : Duo (TR2 rb M cb N) W w lb db L d) : Duo (TR rb M) W w lb db L d := h.weak fun E ⟨E1, E2, h1, h2, h3, h4, h5⟩ => ⟨E1, h1, h4⟩
theorem Duo.second (h : Duo (TR2 rb M cb N) W w lb db L d) : Duo (TR cb N) W w lb db L d := h.weak fun E ⟨E1, E2, h1, h2, h3, h4, h5⟩ => ⟨E2, h2, h5⟩
theorem TR.like (h : Duo (TR rb M) W w lb db L d) (hg : M.gen = N.gen) (hh : M.half = N.half) (hf : M.first = N.first) (hr : M.recs = N.recs) (ha : M.at_ = N.at_) : Duo (TR rb N) W w lb db L d := by
  refine h.weak fun E ht => ⟨E, fun k h => h, ?_⟩
  have := IsRLog.stamp ht N.base N.stamp
  have e : ({ M with base := N.base, stamp := N.stamp } : LSt) = N := by
    obtain ⟨a, b, c, e, f, g, i⟩ := N
    simp only at hg hh hf hr ha
    simp [hg, hh, hf, hr, ha]
  rwa [e] at this
theorem duo_rsame (h : Duo (TR rb M) W w lb db L d) (g : Nat) (b : List UInt8) (v : Value) (l : List (List UInt8)) (hv : StrsAt w v l) :
    Calls Tryd.prog 40 #[.pointer (some ⟨rb, 0, none⟩), .int .i64 (g : Int), .string ⟨b.toArray⟩, v] w fun e w' => e = .returned (.bool (decide (M.gen = g ∧ M.first = b ∧ M.recs = l))) ∧ Below w.heap.size w w' := by
  obtain ⟨E, _, ht⟩ := h.rest
  exact rsame_any ht g b v l hv
/-- The disk alone turns. -/
theorem Duo.disk_turn (h : Duo T W w lb db L d) (ht : Framed T) {f : FuncId} {args : Array Value} {P : Ending → Prop}
    (hc : ∀ G : Nat → Prop, IsDisk w G db d → Calls Tryd.prog f args w fun e w' => P e ∧ Fr G w w' ∧ ∃ G' : Nat → Prop, IsDisk w' G' db d' ∧ ∀ k, G' k → G k ∨ w.heap.size ≤ k) :
    Calls Tryd.prog f args w fun e w' => P e ∧ Duo T W w' lb db L d' := by
  obtain ⟨F, G, E, h1, h2, h3, h4, h5, h6, h7, h8, h9⟩ := h.all
  refine (hc G h8).mono ?_
  rintro e w' ⟨hP, hf, G', hd, hG⟩
  have hs := h.below.size
  refine ⟨hP, h.below.trans (hf.below hs h2), F, G', E, h1, fun k hk => ?_, fun k hk => ⟨(h3 k hk).1, Nat.lt_of_lt_of_le (h3 k hk).2 hf.size⟩, fun k hk hk' => ?_, h5, fun k hk hk' => ?_, h7.frame hf h4, hd, ht _ _ _ _ h9 (fun k hk => (h3 k hk).2) hf h6⟩
  · rcases hG k hk with h | h
    · exact h2 k h
    · omega
  · rcases hG k hk' with h | h
    · exact h4 k hk h
    · have := h7.bd k hk; omega
  · rcases hG k hk' with h | h
    · exact h6 k hk h
    · have := (h3 k hk).2; omega
theorem duo_arm (h : Duo T W w lb db L d) (ht : Framed T) (c u : Int) (hc : c ≤ 9223372036854775807) (hb : 0 ≤ u) (hb' : u ≤ 18446744073709551615) :
    Calls Tryd.prog 43 #[.pointer (some ⟨db, 0, none⟩), .agg #[.int .i64 c, .int .u64 u]] w fun e w' => e = .returned (.tuple #[]) ∧ Duo T W w' lb db L (d.arm c u) :=
  h.disk_turn ht (P := fun e => e = .returned (.tuple #[])) fun G hd => (arm_any hd c u hc hb hb').mono fun e w' ⟨h1, h2, h3⟩ => ⟨h1, h2, _, h3, fun k hk => hk.imp id fun h => h.1⟩
theorem duo_start (h : Duo T W w lb db L d) (ht : Framed T) :
    Calls Tryd.prog 45 #[.pointer (some ⟨db, 0, none⟩)] w fun e w' => e = .returned (.tuple #[]) ∧ Duo T W w' lb db L d.start :=
  h.disk_turn ht (P := fun e => e = .returned (.tuple #[])) fun G hd => (start_any hd).mono fun e w' ⟨h1, h2, h3⟩ => ⟨h1, h2, _, h3, fun k hk => .inl hk⟩
/-- Between two calls, the power on; a failure may be set. -/
structure Alive (L : LSt) (d : DSt) (k : Nat) : Prop where
  ok : LOk L d
  writes : d.writes ≤ 2000 * (k : Int)
  recs : L.recs.length ≤ k
  half : L.half ≤ 2000
theorem Calm.arm (h : Calm L d k) {c u : Int} (hc : c ≤ 9223372036854775807) (hb : 0 ≤ u) (hb' : u ≤ 18446744073709551615) : Alive L (d.arm c u) k :=
  ⟨⟨h.ok.inv, h.ok.off, h.ok.cache, DSt.arm_wf h.ok.wf hc hb hb'⟩, h.writes, h.recs, h.half⟩
theorem Alive.calm (h : Alive L d k) : Calm L (d.arm 0 0) k :=
  ⟨⟨h.ok.inv, h.ok.off, h.ok.cache, DSt.arm_wf h.ok.wf (by decide) (by decide) (by decide)⟩, rfl, h.writes, h.recs, h.half⟩
theorem Alive.small (h : Alive L d k) : L.base + 2 * L.half ≤ 1000000 := by
  have := h.ok.inv.fit
  have := h.ok.wf.most
  omega
theorem Alive.app (h : Alive L d k) (hk : k ≤ 1000) (hst : L.stamp + 1 < 18446744073709551616) (r a : List UInt8) :
    (AppOk L d r a (L.app d r a) ∧ Alive (L.app d r a).2.1 (L.app d r a).2.2 (k + 1)) ∨
    (AppDown L d r a (L.app d r a) ∧ ∀ M : LSt, M = L ∨ M = (L.spec r a).2 → LInv (L.app d r a).2.2.kept (L.stamp + 1) M → ∀ x, L.stamp + 1 ≤ x → Calm { M with stamp := x } (L.app d r a).2.2.start (k + 1)) := by
  rcases app_any h.ok hst (by have := h.recs; omega) h.half r a with h1 | h1
  · refine .inl ⟨h1, h1.ok, ?_, ?_, ?_⟩
    · have := h1.writes; have := h.writes; omega
    · rw [h1.log]
      have := (L.spec_recs r a).1
      have := h.recs
      simp only
      omega
    · rw [h1.log]
      show (L.spec r a).2.half ≤ 2000
      rw [(L.spec_recs r a).2.1]
      exact h.half
  · refine .inr ⟨h1, fun M hM hi x hx => ⟨⟨(hi.stamp x).mono hx, rfl, h1.cache, DSt.start_wf h1.wf⟩, rfl, ?_, ?_, ?_⟩⟩
    · have := h1.writes; have := h.writes
      show (L.app d r a).2.2.writes ≤ _
      omega
    · show M.recs.length ≤ k + 1
      rcases hM with rfl | rfl
      · have := h.recs; omega
      · have := (L.spec_recs r a).1
        have := h.recs
        omega
    · show M.half ≤ 2000
      rcases hM with rfl | rfl
      · exact h.half
      · rw [(L.spec_recs r a).2.1]; exact h.half
theorem duo_append_any (h : Duo T W w lb db L d) (ht : Framed T) (hc : Alive L d k) (hk : k ≤ 1000) (hst : L.stamp + 1 < 18446744073709551616) (r a : List UInt8) (hr : r.length ≤ 1000000) (ha : a.length ≤ 1000000) :
    Calls Tryd.prog 32 #[.pointer (some ⟨lb, 0, none⟩), .string ⟨r.toArray⟩, .string ⟨a.toArray⟩] w fun e w' => e = .returned (.int .i64 (L.app d r a).1) ∧ Duo T W w' lb db (L.app d r a).2.1 (L.app d r a).2.2 :=
  h.app ht (fun F G hl hd hdis => append_any hl hd hdis r a hr ha hc.small hc.half hc.ok.inv.le hst (by have := hc.writes; omega) (by have := hc.recs; omega))
/-- Opened anew: whatever the log was, it is now what the disk keeps. -/
theorem duo_reopen (h : Duo T W w lb db L d) (ht : Framed T) (hc : Calm M d k) (boot : Nat) (hb : boot < 4294967296) {base half : Nat} (hbase : base = M.base) (hhalf : half = M.half) :
    Calls Tryd.prog 30 #[.pointer (some ⟨db, 0, none⟩), .int .i64 (base : Int), .int .i64 (half : Int), .int .u32 (boot : Int)] w fun e w' =>
      ∃ mb, e = .returned (.tuple #[.pointer (some ⟨mb, 0, none⟩), .int .i64 0]) ∧ Duo T W w' mb db { M with stamp := boot * 4294967296 } d := by
  subst hbase hhalf
  obtain ⟨G, hd⟩ := h.disk
  refine (open_ok hd M.base M.half boot hc.ok.inv.pos hc.half hc.fit hb hc.ok.off).mono ?_
  rintro e w' ⟨mb, rfl, hbl, hl⟩
  rw [hc.ok.opened] at hl
  exact ⟨mb, rfl, h.opened ht hbl hl⟩

/-! ### A block of one's own besides -/
def TP (T : World → (Nat → Prop) → Prop) (ob : Nat) (o : Obj) : World → (Nat → Prop) → Prop := fun w E => ∃ E1 : Nat → Prop, (∀ k, E1 k → E k) ∧ ¬ E1 ob ∧ E ob ∧ w.heap[ob]? = some o ∧ T w E1
theorem framedP {T : World → (Nat → Prop) → Prop} (ht : Framed T) (ob : Nat) (o : Obj) : Framed (TP T ob o) := fun w w' E G h hE hf hd => by
  obtain ⟨E1, h1, h2, h3, h4, h5⟩ := h
  exact ⟨E1, h1, h2, h3, (hf.block ob (hE ob h3) (hd ob h3)).trans h4, ht _ _ _ _ h5 (fun k hk => hE k (h1 k hk)) hf (fun k hk => hd k (h1 k hk))⟩
theorem Duo.block {ob : Nat} {o : Obj} (h : Duo T W w lb db L d) (ht : Framed T) (hb : Below w.heap.size w w') (h1 : w.heap.size ≤ ob) (h2 : w'.heap[ob]? = some o) : Duo (TP T ob o) W w' lb db L d := by
  obtain ⟨F, G, E, g1, g2, g3, g4, g5, g6, g7, g8, g9⟩ := h.all
  have hs := h.below.size
  have hs' := hb.size
  have hlt := block_lt h2
  refine ⟨h.below.trans (hb.mono hs), F, G, fun k => E k ∨ k = ob, g1, g2, fun k hk => ?_, g4, fun k hk hk' => ?_, fun k hk hk' => ?_, g7.below hb, g8.below hb, E, fun k h => .inl h, fun he => ?_, .inr rfl, h2,
    ht _ _ _ (fun _ => False) g9 (fun k hk => (g3 k hk).2) (Fr.of_below hb) (fun _ _ h => h)⟩
  · rcases hk with hk | rfl
    · exact ⟨(g3 k hk).1, Nat.lt_of_lt_of_le (g3 k hk).2 hs'⟩
    · exact ⟨by omega, hlt⟩
  · rcases hk with hk | rfl
    · exact g5 k hk hk'
    · have := g7.bd k hk'; omega
  · rcases hk with hk | rfl
    · exact g6 k hk hk'
    · have := g8.bd k hk'; omega
  · have := (g3 ob he).2; omega
theorem Duo.blk {ob : Nat} {o : Obj} (h : Duo (TP T ob o) W w lb db L d) : w.heap[ob]? = some o := by
  obtain ⟨E, _, E1, _, _, _, h4, _⟩ := h.rest
  exact h4
theorem Duo.drop {ob : Nat} {o : Obj} (h : Duo (TP T ob o) W w lb db L d) : Duo T W w lb db L d := h.weak fun E ⟨E1, h1, _, _, _, h5⟩ => ⟨E1, h1, h5⟩
theorem Duo.turnP {β : Type} {Tz : β → World → (Nat → Prop) → Prop} {ob : Nat} {o : Obj} (h : Duo (TP T ob o) W w lb db L d) {f : FuncId} {args : Array Value} {P : β → Ending → Prop}
    (hc : ∀ E : Nat → Prop, (∀ k, E k → k < w.heap.size) → T w E → Calls Tryd.prog f args w fun e w' => ∃ z, P z e ∧ Fr E w w' ∧ ∃ E' : Nat → Prop, Tz z w' E' ∧ ∀ k, E' k → E k ∨ (w.heap.size ≤ k ∧ k < w'.heap.size)) :
    Calls Tryd.prog f args w fun e w' => ∃ z, P z e ∧ Duo (TP (Tz z) ob o) W w' lb db L d := by
  obtain ⟨F, G, E, h1, h2, h3, h4, h5, h6, h7, h8, E1, q1, q2, q3, q4, q5⟩ := h.all
  refine (hc E1 (fun k hk => (h3 k (q1 k hk)).2) q5).mono ?_
  rintro e w' ⟨z, hP, hf, E', ht', hE⟩
  have hs := h.below.size
  have hob := (h3 ob q3).2
  refine ⟨z, hP, h.below.trans (hf.below hs (fun k hk => (h3 k (q1 k hk)).1)), F, G, fun k => E' k ∨ k = ob, h1, h2, fun k hk => ?_, h4, fun k hk hk' => ?_, fun k hk hk' => ?_, h7.frame hf (fun k h h' => h5 k (q1 k h') h), h8.frame hf (fun k h h' => h6 k (q1 k h') h),
    E', fun k h => .inl h, fun he => ?_, .inr rfl, (hf.block ob hob q2).trans q4, ht'⟩
  · rcases hk with hk | rfl
    · rcases hE k hk with h | h
      · exact ⟨(h3 k (q1 k h)).1, Nat.lt_of_lt_of_le (h3 k (q1 k h)).2 hf.size⟩
      · exact ⟨by omega, h.2⟩
    · exact ⟨(h3 k q3).1, Nat.lt_of_lt_of_le (h3 k q3).2 hf.size⟩
  · rcases hk with hk | rfl
    · rcases hE k hk with h | h
      · exact h5 k (q1 k h) hk'
      · have := h7.bd k hk'; omega
    · exact h5 k q3 hk'
  · rcases hk with hk | rfl
    · rcases hE k hk with h | h
      · exact h6 k (q1 k h) hk'
      · have := h8.bd k hk'; omega
    · exact h6 k q3 hk'
  · rcases hE ob he with h | h
    · exact q2 h
    · omega
theorem copyP {ob : Nat} {o : Obj} (h : Duo (TP (TR rb M) ob o) W w lb db L d) (hr : M.recs.length ≤ 60000) :
    Calls Tryd.prog 44 #[.pointer (some ⟨rb, 0, none⟩)] w fun e w' => ∃ cb, e = .returned (.pointer (some ⟨cb, 0, none⟩)) ∧ Duo (TP (TR2 rb M cb M) ob o) W w' lb db L d :=
  h.turnP (P := fun cb e => e = .returned (.pointer (some ⟨cb, 0, none⟩))) (Tz := fun cb => TR2 rb M cb M) fun E hE ht => by
    refine (rcopy_any ht hr).mono ?_
    rintro e w' ⟨cb, rfl, hb, hc⟩
    refine ⟨cb, rfl, Fr.of_below hb, fun k => E k ∨ Ext (fun _ => False) w w' k, ⟨E, Ext (fun _ => False) w w', fun k h => .inl h, fun k h => .inr h, fun k hk hk' => ?_, IsRLog.below ht hb, hc⟩, fun k hk => ?_⟩
    · rcases hk' with hk' | hk'
      · exact hk'
      · have := hE k hk; omega
    · rcases hk with hk | hk | hk
      · exact .inl hk
      · exact hk.elim
      · exact .inr hk
theorem rapp2P {ob : Nat} {o : Obj} (h : Duo (TP (TR2 rb M cb N) ob o) W w lb db L d) (r a : List UInt8) (hr : r.length ≤ 1000000) (ha : a.length ≤ 1000000) (hh : M.half ≤ 2000) (hat : M.at_ ≤ M.half) (hrl : M.recs.length ≤ 60000) :
    Calls Tryd.prog 39 #[.pointer (some ⟨rb, 0, none⟩), .string ⟨r.toArray⟩, .string ⟨a.toArray⟩] w fun e w' => ∃ _ : Unit, e = .returned (.int .i64 (M.spec r a).1) ∧ Duo (TP (TR2 rb (M.spec r a).2 cb N) ob o) W w' lb db L d :=
  h.turnP (P := fun _ e => e = .returned (.int .i64 (M.spec r a).1)) (Tz := fun _ => TR2 rb (M.spec r a).2 cb N) fun E hE ht => by
    obtain ⟨E1, E2, h1, h2, h3, h4, h5⟩ := ht
    refine (rapp_any h4 r a hr ha hh hat hrl).mono ?_
    rintro e w' ⟨rfl, hf, hl⟩
    refine ⟨(), rfl, hf.mono h1, fun k => Ext E1 w w' k ∨ E2 k, ⟨Ext E1 w w', E2, fun k h => .inl h, fun k h => .inr h, fun k hk hk' => ?_, hl, h5.frame hf (fun k hk hk' => h3 k hk' hk)⟩, fun k hk => ?_⟩
    · rcases hk with hk | hk
      · exact h3 k hk hk'
      · have := hE k (h2 k hk'); omega
    · rcases hk with (hk | hk) | hk
      · exact .inl (h1 k hk)
      · exact .inr hk
      · exact .inl (h2 k hk)
theorem rappP {ob : Nat} {o : Obj} (h : Duo (TP (TR rb M) ob o) W w lb db L d) (r a : List UInt8) (hr : r.length ≤ 1000000) (ha : a.length ≤ 1000000) (hh : M.half ≤ 2000) (hat : M.at_ ≤ M.half) (hrl : M.recs.length ≤ 60000) :
    Calls Tryd.prog 39 #[.pointer (some ⟨rb, 0, none⟩), .string ⟨r.toArray⟩, .string ⟨a.toArray⟩] w fun e w' => ∃ _ : Unit, e = .returned (.int .i64 (M.spec r a).1) ∧ Duo (TP (TR rb (M.spec r a).2) ob o) W w' lb db L d :=
  h.turnP (P := fun _ e => e = .returned (.int .i64 (M.spec r a).1)) (Tz := fun _ => TR rb (M.spec r a).2) fun E hE ht => by
    refine (rapp_any ht r a hr ha hh hat hrl).mono ?_
    rintro e w' ⟨rfl, hf, hl⟩
    exact ⟨(), rfl, hf, _, hl, fun k hk => hk⟩
end
end Go.Proofs.YtbdhicjebeoakaaDoor
