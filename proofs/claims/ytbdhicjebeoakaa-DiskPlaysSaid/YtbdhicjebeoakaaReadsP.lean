/- A disk and a map that the call itself has made, side by side. -/
import Derived.Test.YtbdhicjebeoakaaOps
import Derived.Maps.OwnSet
import Derived.Maps.StringElems
import Derived.Maps.Views
set_option linter.unusedVariables false
set_option linter.unusedSimpArgs false
namespace Go.Proofs.Ytbdhicjebeoakaa
open Go.RowKit Go.Maps

/-- What is read at i. -/
def cur (d : DSt) (i : Nat) : List UInt8 := lastOf i d.cache (d.kept.getD i [])
theorem cur_put (d : DSt) (a : Nat) (s : List UInt8) (i : Nat) : cur (d.put a s) i = if a = i then s else cur d i := lastOf_snoc i a s d.cache _
theorem keep_lastOf (i : Nat) : ∀ (l : List (Nat × List UInt8)) (kept : List (List UInt8)), i < kept.length → (keep l kept).getD i [] = lastOf i l (kept.getD i [])
  | [], kept, _ => rfl
  | (b, t) :: r, kept, h => by
    simp only [keep, lastOf]
    rw [keep_lastOf i r _ (by rw [List.length_set]; exact h)]
    congr 1
    rw [List.getD_eq_getElem?_getD, List.getElem?_set]
    by_cases hb : b = i
    · subst hb; simp [h]
    · simp [hb]
structure Calm (d : DSt) (n : Nat) : Prop where
  off : d.off = false
  armed : d.armed = 0
  len : d.kept.length = 8
  writes : d.writes = n
theorem Calm.check {d : DSt} {n : Nat} (h : Calm d n) {i : Nat} (hi : i < 8) : d.check i = 0 := by
  simp [DSt.check, h.off, h.len]; omega
theorem Calm.write {d : DSt} {n : Nat} (h : Calm d n) {i : Nat} (hi : i < 8) {s : List UInt8} (hs : s.length = 64) : d.write i s = (0, d.put i s) := by
  unfold DSt.write
  rw [h.check hi, if_neg (by simp), if_neg (by simp [hs]), if_pos h.armed, Int.toNat_natCast]
theorem Calm.put {d : DSt} {n : Nat} (h : Calm d n) (i : Nat) (s : List UInt8) : Calm (d.put i s) (n + 1) :=
  ⟨h.off, h.armed, h.len, by simp [DSt.put, h.writes]⟩
theorem Calm.flush {d : DSt} {n : Nat} (h : Calm d n) : d.flush = (0, { d with kept := keep d.cache d.kept, cache := [] }) := by
  simp [DSt.flush, h.off]
theorem Calm.flushed {d : DSt} {n : Nat} (h : Calm d n) : Calm { d with kept := keep d.cache d.kept, cache := [] } n :=
  ⟨h.off, h.armed, by simp [keep_length, h.len], h.writes⟩
theorem Calm.cur_flushed {d : DSt} {n : Nat} (h : Calm d n) {i : Nat} (hi : i < 8) : cur { d with kept := keep d.cache d.kept, cache := [] } i = cur d i := by
  unfold cur
  exact keep_lastOf i _ _ (by rw [h.len]; exact hi)
theorem Calm.read {d : DSt} {n : Nat} (h : Calm d n) {i : Nat} (hi : i < 8) : d.read i = (cur d i, 0) := by
  unfold DSt.read
  rw [h.check hi, if_neg (by simp), Int.toNat_natCast]; rfl
theorem calm_new : Calm (DSt.new 8) 0 := ⟨rfl, rfl, by simp [DSt.new], rfl⟩
theorem cur_new {i : Nat} (hi : i < 8) : cur (DSt.new 8) i = zeros64 := by
  simp only [cur, DSt.new, lastOf, List.getD_eq_getElem?_getD, List.getElem?_replicate, hi, if_true]; rfl

def keyL (i : Nat) : Lit := .int .i64 (i : Int)
/-- The map knows what is read, where anything was written. -/
def Knows (D : DataW Unit) (d : DSt) : Prop :=
  IsMap D ∧ ∀ i, i < 8 → (has D (keyL i) = true → ∀ z, D.atKey (keyL i) z = .lit (.string (cur d i))) ∧ (has D (keyL i) = false → cur d i = zeros64)
theorem knows_new : Knows (.map []) (DSt.new 8) := ⟨isMap_empty, fun i hi => ⟨fun h => by simp [has_eq] at h, fun _ => cur_new hi⟩⟩
theorem keyL_key (i : Nat) : WideAt.IsKeyLit (keyL i) := by simp [WideAt.IsKeyLit, keyL]
theorem keyL_ne {i j : Nat} (h : i ≠ j) : keyL i ≠ keyL j := by
  intro e
  simp only [keyL, Lit.int.injEq, true_and] at e
  omega
theorem Knows.put {D : DataW Unit} {d : DSt} (h : Knows D d) (a : Nat) (s : List UInt8) : Knows (D.put (keyL a) (.lit (.string s))) (d.put a s) := by
  refine ⟨h.1.put _ _, fun i hi => ?_⟩
  obtain ⟨h1, h2⟩ := h.2 i hi
  rw [cur_put]
  by_cases he : a = i
  · subst he
    rw [has_put_same h.1 (keyL_key a), if_pos rfl]
    exact ⟨fun _ z => atKey_put_same h.1 (keyL_key a) _ z, fun h => by cases h⟩
  · rw [if_neg he, has_put_other (keyL_ne (fun e => he e.symm))]
    exact ⟨fun hh z => by rw [atKey_put_other (keyL_ne (fun e => he e.symm))]; exact h1 hh z, h2⟩
theorem Knows.flushed {D : DataW Unit} {d : DSt} {n : Nat} (h : Knows D d) (hc : Calm d n) : Knows D { d with kept := keep d.cache d.kept, cache := [] } := by
  refine ⟨h.1, fun i hi => ?_⟩
  rw [hc.cur_flushed hi]
  exact h.2 i hi

/-- A disk at b and a map at m, both made since W. -/
structure Rd (W w : World) (b m n : Nat) (d : DSt) (D : DataW Unit) : Prop where
  below : Below W.heap.size W w
  disk : ∃ F : Nat → Prop, (∀ k, F k → W.heap.size ≤ k ∧ k ≠ m) ∧ IsDisk w F b d
  base : W.heap.size ≤ m
  map : w.ownsMap Try.prog 3 (plainElem Try.prog 9) m n D
theorem Rd.next {W w w' : World} {b m n : Nat} {d d' : DSt} {D : DataW Unit} (h : Rd W w b m n d D)
    {F : Nat → Prop} (hF : ∀ k, F k → W.heap.size ≤ k ∧ k ≠ m) (hf : Fr F w w') (hd : IsDisk w' (Ext F w w') b d') : Rd W w' b m n d' D := by
  have hs := h.below.size
  have hm := h.map.lt
  refine ⟨h.below.trans (hf.below hs (fun k hk => (hF k hk).1)), ⟨_, fun k hk => ?_, hd⟩, h.base, ?_⟩
  · rcases hk with hk | ⟨h1, h2⟩
    · exact hF k hk
    · exact ⟨by omega, by omega⟩
  · obtain ⟨es, clock, hb, rest⟩ := h.map
    exact ⟨es, clock, (hf.block m hm (fun e => (hF m e).2 rfl)).trans hb, rest⟩
theorem Rd.later {W w w' : World} {b m n : Nat} {d : DSt} {D : DataW Unit} (h : Rd W w b m n d D) (hb : Below w.heap.size w w') : Rd W w' b m n d D := by
  have hm := h.map.lt
  obtain ⟨F, hF, hd⟩ := h.disk
  refine ⟨h.below.trans (hb.mono h.below.size), ⟨F, hF, hd.below hb⟩, h.base, ?_⟩
  obtain ⟨es, clock, hbk, rest⟩ := h.map
  exact ⟨es, clock, (hb.block m hm).trans hbk, rest⟩
theorem Rd.alloc {W w : World} {b m n : Nat} {d : DSt} {D : DataW Unit} (h : Rd W w b m n d D) (o : Obj) : Rd W (w.alloc o) b m n d D := h.later ((Below.refl _ _).alloc (Nat.le_refl _) _)
theorem Rd.stored {W w w' : World} {b m n n' : Nat} {d : DSt} {D D' : DataW Unit} (h : Rd W w b m n d D) (hm : w'.ownsMap Try.prog 3 (plainElem Try.prog 9) m n' D') (hg : w.grownBy w' (some m)) : Rd W w' b m n' d D' := by
  obtain ⟨F, hF, hd⟩ := h.disk
  have hf : Fr (fun k => k = m) w w' := (Fr.refl _ w).grown hg (fun k hk => .inl (by simpa using hk.symm))
  refine ⟨h.below.trans (hf.below h.below.size (fun k hk => by subst hk; exact h.base)), ⟨F, hF, hd.frame hf (fun k hk e => (hF k hk).2 e)⟩, h.base, hm⟩
theorem Rd.made {W w : World} {b : Nat} {d : DSt} (h : Own W w b d) : Rd W (w.alloc (.map #[] 0)) b w.heap.size 0 d (.map []) := by
  have hs := h.below.size
  refine ⟨(h.alloc _).below, ⟨fun k => W.heap.size ≤ k ∧ k < w.heap.size, fun k hk => ⟨hk.1, by omega⟩, ?_⟩, hs, World.ownsMap_made w _ _ _⟩
  exact h.disk.below ((Below.refl _ _).alloc (Nat.le_refl _) _)
section
variable {W w : World} {b m n : Nat} {d : DSt} {D : DataW Unit}
theorem rd_write (h : Rd W w b m n d D) {d' : DSt} {at_ c : Int} {s : List UInt8} (hw : d.write at_ s = (c, d')) (hwr : d.writes < 1000000000) :
    Calls Try.prog 13 #[.pointer (some ⟨b, 0, none⟩), .int .i64 at_, .string ⟨s.toArray⟩] w fun e w' => e = .returned (.int .i64 c) ∧ Rd W w' b m n d' D := by
  obtain ⟨F, hF, hd⟩ := h.disk
  have := write_any hd at_ ⟨s.toArray⟩ hwr
  rw [hw] at this
  exact this.mono fun e w' ⟨h1, h2, h3⟩ => ⟨h1, h.next hF h2 h3⟩
theorem rd_write_var (h : Rd W w b m n d D) {d' : DSt} {at_ c : Int} {s : List UInt8} (cs : Array Value) (t : TypeId) (hw : d.write at_ s = (c, d')) (hwr : d.writes < 1000000000) :
    Calls Try.prog 13 #[.pointer (some ⟨b, 0, none⟩), .int .i64 at_, .string ⟨s.toArray⟩] (w.alloc (.cells cs t)) fun e w' => e = .returned (.int .i64 c) ∧ Rd W w' b m n d' D ∧ w'.heap[w.heap.size]? = some (.cells cs t (0, 0)) := by
  obtain ⟨F, hF, hd⟩ := h.disk
  have hA := h.alloc (.cells cs t)
  have hb : Below w.heap.size w (w.alloc (.cells cs t)) := (Below.refl _ _).alloc (Nat.le_refl _) _
  have := write_any (hd.below hb) at_ ⟨s.toArray⟩ hwr
  rw [hw] at this
  exact this.mono fun e w' ⟨h1, h2, h3⟩ => ⟨h1, hA.next hF h2 h3, (h2.block w.heap.size (by simp) (fun e => by have := hd.bd _ e; omega)).trans (heap_alloc_new w _)⟩
theorem rd_flush (h : Rd W w b m n d D) {d' : DSt} {c : Int} (hw : d.flush = (c, d')) :
    Calls Try.prog 15 #[.pointer (some ⟨b, 0, none⟩)] w fun e w' => e = .returned (.int .i64 c) ∧ Rd W w' b m n d' D := by
  obtain ⟨F, hF, hd⟩ := h.disk
  have := flush_any hd
  rw [hw] at this
  exact this.mono fun e w' ⟨h1, h2, h3⟩ => ⟨h1, h.next hF h2 h3⟩
theorem rd_read (h : Rd W w b m n d D) {at_ c : Int} {s : List UInt8} (hw : d.read at_ = (s, c)) :
    Calls Try.prog 16 #[.pointer (some ⟨b, 0, none⟩), .int .i64 at_] w fun e w' => e = .returned (.tuple #[.string ⟨s.toArray⟩, .int .i64 c]) ∧ Rd W w' b m n d D := by
  obtain ⟨F, hF, hd⟩ := h.disk
  have := read_any hd at_
  rw [hw] at this
  exact this.mono fun e w' ⟨h1, h2⟩ => ⟨h1, h.later h2⟩
theorem rd_writes (h : Rd W w b m n d D) {k : Int} (hk : d.writes = k) :
    Calls Try.prog 17 #[.pointer (some ⟨b, 0, none⟩)] w fun e w' => e = .returned (.int .i64 k) ∧ w = w' := by
  obtain ⟨F, hF, hd⟩ := h.disk
  have := writes_any hd
  rw [hk] at this
  exact this
end
theorem mod8 (n : Int) : ∃ q : Nat, q < 8 ∧ wrap64 ((IntKind.u64.wrap n).tmod 8) = (q : Int) := by
  have h0 : 0 ≤ IntKind.u64.wrap n := by simp [IntKind.wrap, IntKind.bits, IntKind.signed]; omega
  have h1 : 0 ≤ (IntKind.u64.wrap n).tmod 8 := Int.tmod_nonneg _ h0
  have h2 : (IntKind.u64.wrap n).tmod 8 < 8 := Int.tmod_lt_of_pos _ (by decide)
  refine ⟨((IntKind.u64.wrap n).tmod 8).toNat, by omega, ?_⟩
  generalize (IntKind.u64.wrap n).tmod 8 = x at *
  unfold wrap64
  omega
end Go.Proofs.Ytbdhicjebeoakaa
