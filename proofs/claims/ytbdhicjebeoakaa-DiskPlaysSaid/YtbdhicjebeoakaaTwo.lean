/- The program's disk and the reference's, side by side, both made since W; and a variable of the call's own at v. -/
import Derived.Test.YtbdhicjebeoakaaRef5
import Derived.Test.YtbdhicjebeoakaaReadsP
import Derived.Test.YtbdhicjebeoakaaArmedW
import Derived.Test.YtbdhicjebeoakaaOrd
set_option linter.unusedVariables false
set_option linter.unusedSimpArgs false
namespace Go.Proofs.Ytbdhicjebeoakaa
open Go.RowKit

structure Two (W w : World) (b r : Nat) (d e : DSt) (v : Nat) (o : Obj) : Prop where
  below : Below W.heap.size W w
  both : ∃ F G : Nat → Prop, (∀ k, F k → W.heap.size ≤ k ∧ k ≠ v) ∧ (∀ k, G k → W.heap.size ≤ k ∧ k ≠ v) ∧ (∀ k, F k → ¬ G k) ∧ IsDisk w F b d ∧ IsRef w G r e
  var : w.heap[v]? = some o
/-- The same, no variable. -/
structure Pair (W w : World) (b r : Nat) (d e : DSt) : Prop where
  below : Below W.heap.size W w
  both : ∃ F G : Nat → Prop, (∀ k, F k → W.heap.size ≤ k) ∧ (∀ k, G k → W.heap.size ≤ k) ∧ (∀ k, F k → ¬ G k) ∧ IsDisk w F b d ∧ IsRef w G r e
section
variable {W w w' : World} {b r v : Nat} {d e d' : DSt} {o : Obj}
theorem Two.pair (h : Two W w b r d e v o) : Pair W w b r d e := by
  obtain ⟨F, G, hF, hG, h3, h4, h5⟩ := h.both
  exact ⟨h.below, F, G, fun k hk => (hF k hk).1, fun k hk => (hG k hk).1, h3, h4, h5⟩
theorem Pair.later (h : Pair W w b r d e) (hb : Below w.heap.size w w') : Pair W w' b r d e := by
  obtain ⟨F, G, hF, hG, h3, h4, h5⟩ := h.both
  exact ⟨h.below.trans (hb.mono h.below.size), F, G, hF, hG, h3, h4.below hb, h5.below hb⟩
theorem Two.later (h : Two W w b r d e v o) (hb : Below w.heap.size w w') : Two W w' b r d e v o := by
  obtain ⟨F, G, hF, hG, h3, h4, h5⟩ := h.both
  exact ⟨h.below.trans (hb.mono h.below.size), ⟨F, G, hF, hG, h3, h4.below hb, h5.below hb⟩, (hb.block v (block_lt' h.var)).trans h.var⟩
where block_lt' {w : World} {k : Nat} {o : Obj} (h : w.heap[k]? = some o) : k < w.heap.size := (Array.getElem?_eq_some_iff.1 h).1
theorem Two.drew (h : Two W w b r d e v o) : Two W w.drew b r d e v o := h.later (Below.refl _ _).drew
theorem Pair.drew (h : Pair W w b r d e) : Pair W w.drew b r d e := h.later (Below.refl _ _).drew
theorem Pair.var (h : Pair W w b r d e) (cs : Array Value) (t : TypeId) : Two W (w.alloc (.cells cs t)) b r d e w.heap.size (.cells cs t (0, 0)) := by
  obtain ⟨F, G, hF, hG, h3, h4, h5⟩ := h.both
  have hb : Below w.heap.size w (w.alloc (.cells cs t)) := (Below.refl _ _).alloc (Nat.le_refl _) _
  exact ⟨h.below.trans (hb.mono h.below.size), ⟨F, G, fun k hk => ⟨hF k hk, fun e => by have := h4.bd k hk; omega⟩, fun k hk => ⟨hG k hk, fun e => by have := h5.bd k hk; omega⟩, h3, h4.below hb, h5.below hb⟩, heap_alloc_new w _⟩
theorem Two.nextD (h : Two W w b r d e v o) {F G : Nat → Prop} (hF : ∀ k, F k → W.heap.size ≤ k ∧ k ≠ v) (hG : ∀ k, G k → W.heap.size ≤ k ∧ k ≠ v) (hFG : ∀ k, F k → ¬ G k) (hr : IsRef w G r e)
    (hf : Fr F w w') (hd : IsDisk w' (Ext F w w') b d') : Two W w' b r d' e v o := by
  have hs := h.below.size
  have hv : v < w.heap.size := (Array.getElem?_eq_some_iff.1 h.var).1
  refine ⟨h.below.trans (hf.below hs (fun k hk => (hF k hk).1)), ⟨_, G, fun k hk => ?_, hG, fun k hk hg => ?_, hd, hr.frame hf (fun k hk he => hFG k he hk)⟩, (hf.block v hv (fun e => (hF v e).2 rfl)).trans h.var⟩
  · rcases hk with hk | ⟨h1, h2⟩
    · exact hF k hk
    · exact ⟨by omega, by omega⟩
  · rcases hk with hk | ⟨h1, h2⟩
    · exact hFG k hk hg
    · have := hr.bd k hg; omega
theorem Two.nextR (h : Two W w b r d e v o) {e' : DSt} {F G : Nat → Prop} (hF : ∀ k, F k → W.heap.size ≤ k ∧ k ≠ v) (hG : ∀ k, G k → W.heap.size ≤ k ∧ k ≠ v) (hFG : ∀ k, F k → ¬ G k) (hd : IsDisk w F b d)
    (hf : Fr G w w') (hr : IsRef w' (Ext G w w') r e') : Two W w' b r d e' v o := by
  have hs := h.below.size
  have hv : v < w.heap.size := (Array.getElem?_eq_some_iff.1 h.var).1
  refine ⟨h.below.trans (hf.below hs (fun k hk => (hG k hk).1)), ⟨F, _, hF, fun k hk => ?_, fun k hk hg => ?_, hd.frame hf (fun k hk he => hFG k hk he), hr⟩, (hf.block v hv (fun e => (hG v e).2 rfl)).trans h.var⟩
  · rcases hk with hk | ⟨h1, h2⟩
    · exact hG k hk
    · exact ⟨by omega, by omega⟩
  · rcases hg with hg | ⟨h1, h2⟩
    · exact hFG k hk hg
    · have := hd.bd k hk; omega

/-! ### The calls -/
theorem two_write (h : Two W w b r d e v o) (at_ : Int) (s : ByteArray) (hwr : d.writes < 1000000000) :
    Calls Try.prog 13 #[.pointer (some ⟨b, 0, none⟩), .int .i64 at_, .string s] w fun x w' => x = .returned (.int .i64 (d.write at_ s.data.toList).1) ∧ Two W w' b r (d.write at_ s.data.toList).2 e v o := by
  obtain ⟨F, G, hF, hG, hFG, hd, hr⟩ := h.both
  exact (write_any hd at_ s hwr).mono fun x w' ⟨h1, h2, h3⟩ => ⟨h1, h.nextD hF hG hFG hr h2 h3⟩
theorem two_rwrite (h : Two W w b r d e v o) (at_ : Int) (s : ByteArray) (hwr : e.writes < 1000000000) :
    Calls Try.prog 19 #[.pointer (some ⟨r, 0, none⟩), .int .i64 at_, .string s] w fun x w' => x = .returned (.int .i64 (e.write at_ s.data.toList).1) ∧ Two W w' b r d (e.write at_ s.data.toList).2 v o := by
  obtain ⟨F, G, hF, hG, hFG, hd, hr⟩ := h.both
  exact (ref_write hr at_ s hwr).mono fun x w' ⟨h1, h2, h3⟩ => ⟨h1, h.nextR hF hG hFG hd h2 h3⟩
theorem two_flush (h : Two W w b r d e v o) :
    Calls Try.prog 15 #[.pointer (some ⟨b, 0, none⟩)] w fun x w' => x = .returned (.int .i64 d.flush.1) ∧ Two W w' b r d.flush.2 e v o := by
  obtain ⟨F, G, hF, hG, hFG, hd, hr⟩ := h.both
  exact (flush_any hd).mono fun x w' ⟨h1, h2, h3⟩ => ⟨h1, h.nextD hF hG hFG hr h2 h3⟩
theorem two_rflush (h : Two W w b r d e v o) :
    Calls Try.prog 20 #[.pointer (some ⟨r, 0, none⟩)] w fun x w' => x = .returned (.int .i64 e.flush.1) ∧ Two W w' b r d e.flush.2 v o := by
  obtain ⟨F, G, hF, hG, hFG, hd, hr⟩ := h.both
  exact (ref_flush hr).mono fun x w' ⟨h1, h2, h3⟩ => ⟨h1, h.nextR hF hG hFG hd h2 h3⟩
theorem two_read (h : Two W w b r d e v o) (at_ : Int) :
    Calls Try.prog 16 #[.pointer (some ⟨b, 0, none⟩), .int .i64 at_] w fun x w' => x = .returned (.tuple #[.string ⟨(d.read at_).1.toArray⟩, .int .i64 (d.read at_).2]) ∧ Two W w' b r d e v o := by
  obtain ⟨F, G, hF, hG, hFG, hd, hr⟩ := h.both
  exact (read_any hd at_).mono fun x w' ⟨h1, h2⟩ => ⟨h1, h.later h2⟩
theorem two_rread (h : Two W w b r d e v o) (at_ : Int) :
    Calls Try.prog 21 #[.pointer (some ⟨r, 0, none⟩), .int .i64 at_] w fun x w' => x = .returned (.tuple #[.string ⟨(e.read at_).1.toArray⟩, .int .i64 (e.read at_).2]) ∧ w = w' := by
  obtain ⟨F, G, hF, hG, hFG, hd, hr⟩ := h.both
  exact ref_read hr at_
theorem two_arm (h : Two W w b r d e v o) (c u : Int) (hc : c ≤ 9223372036854775807) (hb : 0 ≤ u) (hb' : u ≤ 18446744073709551615) :
    Calls Try.prog 22 #[.pointer (some ⟨b, 0, none⟩), .agg #[.int .i64 c, .int .u64 u]] w fun x w' => x = .returned (.tuple #[]) ∧ Two W w' b r (d.arm c u) e v o := by
  obtain ⟨F, G, hF, hG, hFG, hd, hr⟩ := h.both
  exact (arm_any hd c u hc hb hb').mono fun x w' ⟨h1, h2, h3⟩ => ⟨h1, h.nextD hF hG hFG hr h2 h3⟩
theorem two_rarm (h : Two W w b r d e v o) (c u : Int) (hc : c ≤ 9223372036854775807) (hb : 0 ≤ u) (hb' : u ≤ 18446744073709551615) :
    Calls Try.prog 23 #[.pointer (some ⟨r, 0, none⟩), .agg #[.int .i64 c, .int .u64 u]] w fun x w' => x = .returned (.tuple #[]) ∧ Two W w' b r d (e.arm c u) v o := by
  obtain ⟨F, G, hF, hG, hFG, hd, hr⟩ := h.both
  exact (ref_arm hr c u hc hb hb').mono fun x w' ⟨h1, h2, h3⟩ => ⟨h1, h.nextR hF hG hFG hd h2 h3⟩
theorem two_crash (h : Two W w b r d e v o) (u : Int) (hb : 0 ≤ u) (hb' : u ≤ 18446744073709551615) :
    Calls Try.prog 24 #[.pointer (some ⟨b, 0, none⟩), .int .u64 u] w fun x w' => x = .returned (.tuple #[]) ∧ Two W w' b r (d.crash u) e v o := by
  obtain ⟨F, G, hF, hG, hFG, hd, hr⟩ := h.both
  exact (crash_any hd u hb hb').mono fun x w' ⟨h1, h2, h3⟩ => ⟨h1, h.nextD hF hG hFG hr h2 h3⟩
theorem two_rcrash (h : Two W w b r d e v o) (u : Int) (hb : 0 ≤ u) (hb' : u ≤ 18446744073709551615) :
    Calls Try.prog 25 #[.pointer (some ⟨r, 0, none⟩), .int .u64 u] w fun x w' => x = .returned (.tuple #[]) ∧ Two W w' b r d (e.crash u) v o := by
  obtain ⟨F, G, hF, hG, hFG, hd, hr⟩ := h.both
  exact (ref_crash hr u hb hb').mono fun x w' ⟨h1, h2, h3⟩ => ⟨h1, h.nextR hF hG hFG hd h2 h3⟩
theorem ext_same {F : Nat → Prop} {w w' : World} (hf : Fr F w w') {n : Nat} (hbd : ∀ k, F k → k < w.heap.size) : ∀ k, Ext F w w' k → k < w'.heap.size := fun k hk => by
  rcases hk with hk | hk
  · have := hbd k hk; have := hf.size; omega
  · exact hk.2
theorem two_start (h : Two W w b r d e v o) :
    Calls Try.prog 26 #[.pointer (some ⟨b, 0, none⟩)] w fun x w' => x = .returned (.tuple #[]) ∧ Two W w' b r d.start e v o := by
  obtain ⟨F, G, hF, hG, hFG, hd, hr⟩ := h.both
  exact (start_any hd).mono fun x w' ⟨h1, h2, h3⟩ => ⟨h1, h.nextD hF hG hFG hr h2 (h3.grow (fun k hk => .inl hk) (ext_same h2 (n := 0) hd.bd))⟩
theorem two_rstart (h : Two W w b r d e v o) :
    Calls Try.prog 27 #[.pointer (some ⟨r, 0, none⟩)] w fun x w' => x = .returned (.tuple #[]) ∧ Two W w' b r d e.start v o := by
  obtain ⟨F, G, hF, hG, hFG, hd, hr⟩ := h.both
  exact (ref_start hr).mono fun x w' ⟨h1, h2, h3⟩ => ⟨h1, h.nextR hF hG hFG hd h2 (h3.grow (fun k hk => .inl hk) (ext_same h2 (n := 0) hr.bd))⟩
theorem pair_down (h : Pair W w b r d e) : Calls Try.prog 28 #[.pointer (some ⟨b, 0, none⟩)] w fun x w' => x = .returned (.bool d.off) ∧ w = w' := by
  obtain ⟨F, G, hF, hG, hFG, hd, hr⟩ := h.both
  exact down_any hd
theorem pair_writes (h : Pair W w b r d e) : Calls Try.prog 17 #[.pointer (some ⟨b, 0, none⟩)] w fun x w' => x = .returned (.int .i64 d.writes) ∧ w = w' := by
  obtain ⟨F, G, hF, hG, hFG, hd, hr⟩ := h.both
  exact writes_any hd
theorem pair_len (h : Pair W w b r d e) {n : Nat} (hn : d.kept.length = n) : Calls Try.prog 29 #[.pointer (some ⟨b, 0, none⟩)] w fun x w' => x = .returned (.int .i64 n) ∧ w = w' := by
  obtain ⟨F, G, hF, hG, hFG, hd, hr⟩ := h.both
  have := len_any hd
  rwa [hn] at this
theorem pair_kept (h : Pair W w b r d e) {at_ : Int} {s : List UInt8} (hk : d.keptAt at_ = s) : Calls Try.prog 30 #[.pointer (some ⟨b, 0, none⟩), .int .i64 at_] w fun x w' => x = .returned (.string ⟨s.toArray⟩) ∧ w = w' := by
  obtain ⟨F, G, hF, hG, hFG, hd, hr⟩ := h.both
  have := kept_any hd at_
  rwa [hk] at this
theorem Pair.refCells (h : Pair W w b r d e) : ∃ kb kcap, w.cell? ⟨r, 0, none⟩ = some (.slice (some ⟨kb, 0, none⟩) e.kept.length kcap) ∧ w.cell? ⟨r, 2, none⟩ = some (.bool e.off) ∧ w.cell? ⟨r, 5, none⟩ = some (.int .i64 e.writes) ∧
    ∀ i, i < e.kept.length → w.cell? ⟨kb, i, none⟩ = some (.string ⟨(e.kept.getD i []).toArray⟩) := by
  obtain ⟨F, G, hF, hG, hFG, hd, kb, kcap, sp, cv, hr⟩ := h.both
  obtain ⟨c0, -, c2, -, -, c5⟩ := hr.cells
  exact ⟨kb, kcap, c0, c2, c5, fun i hi => kept_cell hr.kept hi⟩
end
/-! ### What stays -/
theorem write_len (d : DSt) (a : Int) (s : List UInt8) : (d.write a s).2.kept.length = d.kept.length := by
  unfold DSt.write
  split
  · rfl
  · split
    · rfl
    · split
      · rfl
      · split
        · rfl
        · unfold DSt.crash
          split
          · rfl
          · simp [DSt.put, land_length]
theorem write_writes (d : DSt) (a : Int) (s : List UInt8) : (d.write a s).2.writes ≤ d.writes + 1 := by
  unfold DSt.write
  split
  · simp; omega
  · split
    · simp; omega
    · split
      · simp [DSt.put]
      · split
        · simp [DSt.put]
        · unfold DSt.crash
          split <;> simp [DSt.put]
theorem flush_len (d : DSt) : d.flush.2.kept.length = d.kept.length := by unfold DSt.flush; split <;> simp [keep_length]
theorem flush_writes (d : DSt) : d.flush.2.writes = d.writes := by unfold DSt.flush; split <;> rfl
theorem crash_len (d : DSt) (u : Int) : (d.crash u).kept.length = d.kept.length := by unfold DSt.crash; split <;> simp [land_length]
theorem crash_writes (d : DSt) (u : Int) : (d.crash u).writes = d.writes := by unfold DSt.crash; split <;> rfl
end Go.Proofs.Ytbdhicjebeoakaa
