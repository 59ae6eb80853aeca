/- Append, whatever it finds; a log and its disk that the call itself has made, beside what else is its own; what each call answers and leaves. -/
import Derived.Test.YtbdhicjebeoakaaDoorDisk6
import Derived.Test.YtbdhicjebeoakaaDoorLogQ
import Derived.Test.YtbdhicjebeoakaaDoorBounds
set_option linter.unusedVariables false
set_option linter.unusedSimpArgs false
namespace Go.Proofs.YtbdhicjebeoakaaDoor
open Go.RowKit

/-- Nothing of W has turned; of what is new there is a disk at b. -/
structure Own (W w : World) (b : Nat) (d : DSt) : Prop where
  below : Below W.heap.size W w
  disk : IsDisk w (fun k => W.heap.size ≤ k ∧ k < w.heap.size) b d
theorem Own.next {W w w' : World} {b : Nat} {d d' : DSt} (h : Own W w b d) (hf : Fr (fun k => W.heap.size ≤ k ∧ k < w.heap.size) w w') (hd : IsDisk w' (Ext (fun k => W.heap.size ≤ k ∧ k < w.heap.size) w w') b d') : Own W w' b d' := by
  have hs := h.below.size
  have hs' := hf.size
  refine ⟨h.below.trans (hf.below hs (fun k hk => hk.1)), hd.grow (fun k hk => ?_) (fun k hk => hk.2)⟩
  rcases hk with ⟨h1, h2⟩ | ⟨h1, h2⟩
  · exact ⟨h1, by omega⟩
  · exact ⟨by omega, h2⟩
theorem Own.later {W w w' : World} {b : Nat} {d : DSt} (h : Own W w b d) (hb : Below w.heap.size w w') : Own W w' b d := by
  have hs := h.below.size
  have hs' := hb.size
  refine ⟨h.below.trans (hb.mono hs), (h.disk.below hb).grow (fun k hk => ⟨hk.1, by omega⟩) (fun k hk => hk.2)⟩
theorem Own.alloc {W w : World} {b : Nat} {d : DSt} (h : Own W w b d) (o : Obj) : Own W (w.alloc o) b d := h.later ((Below.refl _ _).alloc (Nat.le_refl _) _)
theorem Own.drew {W w : World} {b : Nat} {d : DSt} (h : Own W w b d) : Own W w.drew b d := h.later (Below.refl _ _).drew

theorem own_new (n : Nat) (w : World) (h : 1 ≤ n) (h2 : n ≤ 4096) :
    Calls Tryd.prog 29 #[.int .i64 n] w fun e w' => ∃ b, e = .returned (.tuple #[.pointer (some ⟨b, 0, none⟩), .int .i64 0]) ∧ Own w w' b (DSt.new n) :=
  (new_ok n w h h2).mono fun e w' ⟨b, h1, h2, h3⟩ => ⟨b, h1, h2, h3⟩
section
variable {W w : World} {b : Nat} {d : DSt}
theorem own_write (h : Own W w b d) (at_ : Int) (s : ByteArray) (hwr : d.writes < 1000000000) :
    Calls Tryd.prog 76 #[.pointer (some ⟨b, 0, none⟩), .int .i64 at_, .string s] w fun e w' => e = .returned (.int .i64 (d.write at_ s.data.toList).1) ∧ Own W w' b (d.write at_ s.data.toList).2 :=
  (write_any h.disk at_ s hwr).mono fun e w' ⟨h1, h2, h3⟩ => ⟨h1, h.next h2 h3⟩
theorem own_flush (h : Own W w b d) :
    Calls Tryd.prog 77 #[.pointer (some ⟨b, 0, none⟩)] w fun e w' => e = .returned (.int .i64 d.flush.1) ∧ Own W w' b d.flush.2 :=
  (flush_any h.disk).mono fun e w' ⟨h1, h2, h3⟩ => ⟨h1, h.next h2 h3⟩
theorem own_read (h : Own W w b d) (at_ : Int) :
    Calls Tryd.prog 73 #[.pointer (some ⟨b, 0, none⟩), .int .i64 at_] w fun e w' => e = .returned (.tuple #[.string ⟨(d.read at_).1.toArray⟩, .int .i64 (d.read at_).2]) ∧ Own W w' b d :=
  (read_any h.disk at_).mono fun e w' ⟨h1, h2⟩ => ⟨h1, h.later h2⟩
theorem own_crash (h : Own W w b d) (bits : Int) (hb0 : 0 ≤ bits) (hb1 : bits ≤ 18446744073709551615) :
    Calls Tryd.prog 31 #[.pointer (some ⟨b, 0, none⟩), .int .u64 bits] w fun e w' => e = .returned (.tuple #[]) ∧ Own W w' b (d.crash bits) :=
  (crash_any h.disk bits hb0 hb1).mono fun e w' ⟨h1, h2, h3⟩ => ⟨h1, h.next h2 h3⟩
theorem own_start (h : Own W w b d) :
    Calls Tryd.prog 45 #[.pointer (some ⟨b, 0, none⟩)] w fun e w' => e = .returned (.tuple #[]) ∧ Own W w' b d.start :=
  (start_any h.disk).mono fun e w' ⟨h1, h2, h3⟩ => ⟨h1, h.next h2 (h3.grow (fun k hk => .inl hk) (fun k hk => by
    rcases hk with hk | hk
    · have := hk.2; have := h2.size; omega
    · exact hk.2))⟩
theorem own_arm (h : Own W w b d) (c u : Int) (hc : c ≤ 9223372036854775807) (hb : 0 ≤ u) (hb' : u ≤ 18446744073709551615) :
    Calls Tryd.prog 43 #[.pointer (some ⟨b, 0, none⟩), .agg #[.int .i64 c, .int .u64 u]] w fun e w' => e = .returned (.tuple #[]) ∧ Own W w' b (d.arm c u) :=
  (arm_any h.disk c u hc hb hb').mono fun e w' ⟨h1, h2, h3⟩ => ⟨h1, h.next h2 h3⟩
end

end Go.Proofs.YtbdhicjebeoakaaDoor
set_option linter.unusedVariables false
set_option linter.unusedSimpArgs false
namespace Go.Proofs.YtbdhicjebeoakaaDoor
open Go.RowKit

theorem append_any {w : World} {F G : Nat → Prop} {lb db : Nat} {L : LSt} {d : DSt} (h : IsLog w F lb db L) (hd : IsDisk w G db d) (hdis : ∀ k, F k → ¬ G k) (r a : List UInt8) (hr : r.length ≤ 1000000) (ha : a.length ≤ 1000000)
    (hl : L.base + 2 * L.half ≤ 1000000) (hh : L.half ≤ 2000) (hat : L.at_ ≤ L.half) (hst : L.stamp + 1 < 18446744073709551616) (hwr : d.writes + 2000 < 1000000000) (hrl : L.recs.length ≤ 60000) :
    Calls Tryd.prog 32 #[.pointer (some ⟨lb, 0, none⟩), .string ⟨r.toArray⟩, .string ⟨a.toArray⟩] w (AppPost w F G lb db (L.app d r a)) := by
  by_cases h1 : 2147483646 ≤ L.gen
  · refine (append_limit h h1 ⟨r.toArray⟩ ⟨a.toArray⟩).mono ?_
    rintro e w' ⟨rfl, rfl⟩
    have hy : L.app d r a = (13, L, d) := by unfold LSt.app; rw [if_pos h1]
    rw [hy]
    exact ⟨rfl, Fr.refl _ _, F, G, h, hd, hdis, fun k hk => .inl hk, fun k hk => .inl hk⟩
  · by_cases h2 : 0 < L.gen ∧ L.at_ + countOf r.length ≤ L.half
    · exact append_rec h hd hdis (by omega) r a hr ha hl hh hst hwr hrl h2.1 h2.2
    · by_cases h3 : L.half < countOf a.length
      · refine (append_full h (by omega) r a hr ha hl hat h2 h3).mono ?_
        rintro e w' ⟨rfl, hb⟩
        have hy : L.app d r a = (4, L, d) := by unfold LSt.app; rw [if_neg h1, if_neg h2, if_pos h3]
        rw [hy]
        exact ⟨rfl, Fr.of_below hb, F, G, h.below hb, hd.below hb, hdis, fun k hk => .inl hk, fun k hk => .inl hk⟩
      · exact append_whole h hd hdis (by omega) r a hr ha hl hh hat hst hwr h2 (by omega)

/-- What else is one's own, in blocks E, stays where other blocks turn. -/
def Framed (T : World → (Nat → Prop) → Prop) : Prop := ∀ (w w' : World) (E G : Nat → Prop), T w E → (∀ k, E k → k < w.heap.size) → Fr G w w' → (∀ k, E k → ¬ G k) → T w' E
def TNone : World → (Nat → Prop) → Prop := fun _ _ => True
theorem framed_none : Framed TNone := fun _ _ _ _ _ _ _ _ => trivial
/-- A log, its disk, and what else there is: each in blocks of its own. -/
structure Duo (T : World → (Nat → Prop) → Prop) (W w : World) (lb db : Nat) (L : LSt) (d : DSt) : Prop where
  below : Below W.heap.size W w
  all : ∃ F G E : Nat → Prop, (∀ k, F k → W.heap.size ≤ k) ∧ (∀ k, G k → W.heap.size ≤ k) ∧ (∀ k, E k → W.heap.size ≤ k ∧ k < w.heap.size) ∧ (∀ k, F k → ¬ G k) ∧ (∀ k, E k → ¬ F k) ∧ (∀ k, E k → ¬ G k) ∧
    IsLog w F lb db L ∧ IsDisk w G db d ∧ T w E
section
variable {T T' : World → (Nat → Prop) → Prop} {W w w' : World} {lb db : Nat} {L L' : LSt} {d d' : DSt}
theorem Duo.log (h : Duo T W w lb db L d) : ∃ F, IsLog w F lb db L := by
  obtain ⟨F, _, _, _, _, _, _, _, _, h, _⟩ := h.all
  exact ⟨F, h⟩
theorem Duo.disk (h : Duo T W w lb db L d) : ∃ G, IsDisk w G db d := by
  obtain ⟨_, G, _, _, _, _, _, _, _, _, h, _⟩ := h.all
  exact ⟨G, h⟩
theorem Duo.rest (h : Duo T W w lb db L d) : ∃ E : Nat → Prop, (∀ k, E k → W.heap.size ≤ k ∧ k < w.heap.size) ∧ T w E := by
  obtain ⟨_, _, E, _, _, he, _, _, _, _, _, h⟩ := h.all
  exact ⟨E, he, h⟩
theorem Duo.later (h : Duo T W w lb db L d) (ht : Framed T) (hb : Below w.heap.size w w') : Duo T W w' lb db L d := by
  obtain ⟨F, G, E, h1, h2, h3, h4, h5, h6, h7, h8, h9⟩ := h.all
  exact ⟨h.below.trans (hb.mono h.below.size), F, G, E, h1, h2, fun k hk => ⟨(h3 k hk).1, Nat.lt_of_lt_of_le (h3 k hk).2 hb.size⟩, h4, h5, h6, h7.below hb, h8.below hb,
    ht _ _ _ (fun _ => False) h9 (fun k hk => (h3 k hk).2) (Fr.of_below hb) (fun _ _ h => h)⟩
theorem Duo.alloc (h : Duo T W w lb db L d) (ht : Framed T) (o : Obj) : Duo T W (w.alloc o) lb db L d := h.later ht ((Below.refl _ _).alloc (Nat.le_refl _) _)
theorem Duo.drew (h : Duo T W w lb db L d) (ht : Framed T) : Duo T W w.drew lb db L d := h.later ht (Below.refl _ _).drew
theorem Duo.drewN (h : Duo T W w lb db L d) (ht : Framed T) (n : Nat) : Duo T W (w.drewN n) lb db L d := h.later ht (below_drewN (Below.refl _ _) n)
theorem Duo.app (h : Duo T W w lb db L d) (ht : Framed T) {y : Int × LSt × DSt} {args : Array Value} (hp : ∀ F G : Nat → Prop, IsLog w F lb db L → IsDisk w G db d → (∀ k, F k → ¬ G k) → Calls Tryd.prog 32 args w (AppPost w F G lb db y)) :
    Calls Tryd.prog 32 args w fun e w' => e = .returned (.int .i64 y.1) ∧ Duo T W w' lb db y.2.1 y.2.2 := by
  obtain ⟨F, G, E, h1, h2, h3, h4, h5, h6, h7, h8, h9⟩ := h.all
  refine (hp F G h7 h8 h4).mono ?_
  rintro e w' ⟨rfl, hf, F', G', hl, hd, hdis, hF, hG⟩
  have hs := h.below.size
  refine ⟨rfl, h.below.trans (hf.below hs (fun k hk => hk.elim (h1 k) (h2 k))), F', G', E, fun k hk => ?_, fun k hk => ?_, fun k hk => ⟨(h3 k hk).1, Nat.lt_of_lt_of_le (h3 k hk).2 hf.size⟩, hdis, fun k hk hk' => ?_, fun k hk hk' => ?_, hl, hd,
    ht _ _ _ _ h9 (fun k hk => (h3 k hk).2) hf (fun k hk h => h.elim (h5 k hk) (h6 k hk))⟩
  · rcases hF k hk with h | h
    · exact h1 k h
    · omega
  · rcases hG k hk with h | h
    · exact h2 k h
    · omega
  · rcases hF k hk' with h | h
    · exact h5 k hk h
    · have := (h3 k hk).2; omega
  · rcases hG k hk' with h | h
    · exact h6 k hk h
    · have := (h3 k hk).2; omega
end
end Go.Proofs.YtbdhicjebeoakaaDoor
set_option linter.unusedVariables false
set_option linter.unusedSimpArgs false
namespace Go.Proofs.YtbdhicjebeoakaaDoor
open Go.RowKit

/-- Between two calls, the power on and no failure set; k calls of Append so far. -/
structure Calm (L : LSt) (d : DSt) (k : Nat) : Prop where
  ok : LOk L d
  armed : d.armed = 0
  writes : d.writes ≤ 2000 * (k : Int)
  recs : L.recs.length ≤ k
  half : L.half ≤ 2000
theorem Calm.fit {L : LSt} {d : DSt} {k : Nat} (h : Calm L d k) : L.base + 2 * L.half ≤ d.kept.length := h.ok.inv.fit
theorem Calm.small {L : LSt} {d : DSt} {k : Nat} (h : Calm L d k) : L.base + 2 * L.half ≤ 1000000 := by
  have := h.fit
  have := h.ok.wf.most
  omega
theorem LSt.spec_recs (L : LSt) (r a : List UInt8) : (L.spec r a).2.recs.length ≤ L.recs.length + 1 ∧ (L.spec r a).2.half = L.half ∧ (L.spec r a).2.base = L.base ∧ (L.spec r a).2.stamp = L.stamp := by
  unfold LSt.spec
  split
  · exact ⟨Nat.le_succ _, rfl, rfl, rfl⟩
  · split
    · exact ⟨by simp, rfl, rfl, rfl⟩
    · split
      · exact ⟨Nat.le_succ _, rfl, rfl, rfl⟩
      · exact ⟨by simp, rfl, rfl, rfl⟩
theorem Calm.app {L : LSt} {d : DSt} {k : Nat} (h : Calm L d k) (hk : k ≤ 1000) (hst : L.stamp + 1 < 18446744073709551616) (r a : List UInt8) :
    AppOk L d r a (L.app d r a) ∧ Calm (L.app d r a).2.1 (L.app d r a).2.2 (k + 1) := by
  have h1 := app_calm h.ok hst (by have := h.recs; omega) h.half h.armed r a
  refine ⟨h1, h1.ok, h1.armed h.armed, ?_, ?_, ?_⟩
  · have := h1.writes; have := h.writes; omega
  · rw [h1.log]
    have := (L.spec_recs r a).1
    have := h.recs
    simp only
    omega
  · rw [h1.log]
    show (L.spec r a).2.half ≤ 2000
    rw [(L.spec_recs r a).2.1]
    exact h.half
theorem Calm.again {L : LSt} {d : DSt} {k : Nat} (h : Calm L d k) (x : Nat) (hx : L.stamp ≤ x) : Calm { L with stamp := x } d k := ⟨h.ok.again x hx, h.armed, h.writes, h.recs, h.half⟩
theorem Calm.fresh (n base half st : Nat) (h1 : 1 ≤ half) (h2 : base + 2 * half ≤ n) (h3 : n ≤ 4096) (h4 : half ≤ 2000) : Calm ⟨base, half, st, 0, 0, [], []⟩ (DSt.new n) 0 :=
  ⟨LOk.fresh n base half st h1 h2 h3, rfl, by simp [DSt.new], Nat.le_refl _, h4⟩

section
variable {T T' : World → (Nat → Prop) → Prop} {W w w' : World} {lb db : Nat} {L L' : LSt} {d d' : DSt} {k : Nat}
theorem duo_append (h : Duo T W w lb db L d) (ht : Framed T) (hc : Calm L d k) (hk : k ≤ 1000) (hst : L.stamp + 1 < 18446744073709551616) (r a : List UInt8) (hr : r.length ≤ 1000000) (ha : a.length ≤ 1000000) :
    Calls Tryd.prog 32 #[.pointer (some ⟨lb, 0, none⟩), .string ⟨r.toArray⟩, .string ⟨a.toArray⟩] w fun e w' =>
      ∃ L' d', e = .returned (.int .i64 (L.spec r a).1) ∧ Duo T W w' lb db L' d' ∧ Calm L' d' (k + 1) ∧ L' = { (L.spec r a).2 with stamp := L'.stamp } ∧ L.stamp ≤ L'.stamp ∧ L'.stamp ≤ L.stamp + 1 ∧ d'.kept.length = d.kept.length := by
  obtain ⟨h1, h2⟩ := hc.app hk hst r a
  refine (h.app ht (fun F G hl hd hdis => append_any hl hd hdis r a hr ha hc.small hc.half hc.ok.inv.le hst (by have := hc.writes; omega) (by have := hc.recs; omega))).mono ?_
  rintro e w' ⟨rfl, hd⟩
  exact ⟨_, _, by rw [h1.e], hd, h2, h1.log, h1.up.1, h1.up.2, h1.len⟩
theorem Duo.opened (h : Duo T W w lb db L d) (ht : Framed T) {M : LSt} {mb : Nat} (hb : Below w.heap.size w w') (hm : IsLog w' (Ext (fun _ => False) w w') mb db M) : Duo T W w' mb db M d := by
  obtain ⟨F, G, E, h1, h2, h3, h4, h5, h6, h7, h8, h9⟩ := h.all
  have hs := h.below.size
  refine ⟨h.below.trans (hb.mono hs), Ext (fun _ => False) w w', G, E, fun k hk => ?_, h2, fun k hk => ⟨(h3 k hk).1, Nat.lt_of_lt_of_le (h3 k hk).2 hb.size⟩, fun k hk hk' => ?_, fun k hk hk' => ?_, h6, hm, h8.below hb,
    ht _ _ _ (fun _ => False) h9 (fun k hk => (h3 k hk).2) (Fr.of_below hb) (fun _ _ h => h)⟩
  · rcases hk with hk | hk
    · exact hk.elim
    · omega
  · rcases hk with hk | hk
    · exact hk.elim
    · have := h8.bd k hk'; omega
  · rcases hk' with hk' | hk'
    · exact hk'.elim
    · have := (h3 k hk).2; omega
theorem duo_open (h : Duo T W w lb db L d) (ht : Framed T) (hc : Calm L d k) (boot : Nat) (hb : boot < 4294967296) {base half : Nat} (hbase : base = L.base) (hhalf : half = L.half) :
    Calls Tryd.prog 30 #[.pointer (some ⟨db, 0, none⟩), .int .i64 (base : Int), .int .i64 (half : Int), .int .u32 (boot : Int)] w fun e w' =>
      ∃ mb, e = .returned (.tuple #[.pointer (some ⟨mb, 0, none⟩), .int .i64 0]) ∧ Duo T W w' lb db L d ∧ Duo T W w' mb db { L with stamp := boot * 4294967296 } d := by
  subst hbase hhalf
  obtain ⟨G, hd⟩ := h.disk
  refine (open_ok hd L.base L.half boot hc.ok.inv.pos hc.half hc.fit hb hc.ok.off).mono ?_
  rintro e w' ⟨mb, rfl, hbl, hl⟩
  rw [hc.ok.opened] at hl
  exact ⟨mb, rfl, h.later ht hbl, h.opened ht hbl hl⟩
/-- The first log on a new disk. -/
theorem duo_first (h : Own W w db d) (n base half boot : Nat) (hd : d = DSt.new n) (h1 : 1 ≤ half) (h2 : base + 2 * half ≤ n) (h3 : n ≤ 4096) (h4 : half ≤ 2000) (hb : boot < 4294967296) :
    Calls Tryd.prog 30 #[.pointer (some ⟨db, 0, none⟩), .int .i64 (base : Int), .int .i64 (half : Int), .int .u32 (boot : Int)] w fun e w' =>
      ∃ lb, e = .returned (.tuple #[.pointer (some ⟨lb, 0, none⟩), .int .i64 0]) ∧ Duo TNone W w' lb db ⟨base, half, boot * 4294967296, 0, 0, [], []⟩ d := by
  subst hd
  refine (open_ok h.disk base half boot h1 h4 (by simpa [DSt.new] using h2) hb rfl).mono ?_
  rintro e w' ⟨lb, rfl, hbl, hl⟩
  rw [opened_fresh n base half boot h1 h2 h3] at hl
  have hs := h.below.size
  refine ⟨lb, rfl, h.below.trans (hbl.mono hs), _, _, fun _ => False, fun k hk => ?_, fun k hk => hk.1, fun k hk => hk.elim, fun k hk hk' => ?_, fun k hk => hk.elim, fun k hk => hk.elim, hl, h.disk.below hbl, trivial⟩
  · rcases hk with hk | hk
    · exact hk.elim
    · omega
  · rcases hk with hk | hk
    · exact hk.elim
    · have := hk'.2; omega
/-- Something else of one's own is made. -/
theorem Duo.with_ (h : Duo TNone W w lb db L d) {E : Nat → Prop} (hb : Below w.heap.size w w') (he : ∀ k, E k → w.heap.size ≤ k ∧ k < w'.heap.size) (ht : T w' E) : Duo T W w' lb db L d := by
  obtain ⟨F, G, _, h1, h2, _, h4, _, _, h7, h8, _⟩ := h.all
  have hs := h.below.size
  refine ⟨h.below.trans (hb.mono hs), F, G, E, h1, h2, fun k hk => ⟨by have := (he k hk).1; omega, (he k hk).2⟩, h4, fun k hk hk' => ?_, fun k hk hk' => ?_, h7.below hb, h8.below hb, ht⟩
  · have := (he k hk).1; have := h7.bd k hk'; omega
  · have := (he k hk).1; have := h8.bd k hk'; omega
/-- What else there is turns, the log and its disk do not. -/
theorem Duo.turn (h : Duo T W w lb db L d) {f : FuncId} {args : Array Value} {P : Ending → World → Prop}
    (hc : ∀ E : Nat → Prop, (∀ k, E k → k < w.heap.size) → T w E → Calls Tryd.prog f args w fun e w' => P e w' ∧ Fr E w w' ∧ ∃ E' : Nat → Prop, T' w' E' ∧ ∀ k, E' k → E k ∨ (w.heap.size ≤ k ∧ k < w'.heap.size)) :
    Calls Tryd.prog f args w fun e w' => P e w' ∧ Duo T' W w' lb db L d := by
  obtain ⟨F, G, E, h1, h2, h3, h4, h5, h6, h7, h8, h9⟩ := h.all
  refine (hc E (fun k hk => (h3 k hk).2) h9).mono ?_
  rintro e w' ⟨hP, hf, E', ht', hE⟩
  have hs := h.below.size
  refine ⟨hP, h.below.trans (hf.below hs (fun k hk => (h3 k hk).1)), F, G, E', h1, h2, fun k hk => ?_, h4, fun k hk hk' => ?_, fun k hk hk' => ?_, h7.frame hf (fun k h h' => h5 k h' h), h8.frame hf (fun k h h' => h6 k h' h), ht'⟩
  · rcases hE k hk with h | h
    · exact ⟨(h3 k h).1, Nat.lt_of_lt_of_le (h3 k h).2 hf.size⟩
    · exact ⟨by omega, h.2⟩
  · rcases hE k hk with h | h
    · exact h5 k h hk'
    · have := h7.bd k hk'; omega
  · rcases hE k hk with h | h
    · exact h6 k h hk'
    · have := h8.bd k hk'; omega
theorem duo_base (h : Duo T W w lb db L d) : Calls Tryd.prog 33 #[.pointer (some ⟨lb, 0, none⟩)] w fun e w' => e = .returned (.string ⟨L.first.toArray⟩) ∧ w' = w := by
  obtain ⟨F, hl⟩ := h.log
  exact base_any hl
theorem duo_gen (h : Duo T W w lb db L d) : Calls Tryd.prog 35 #[.pointer (some ⟨lb, 0, none⟩)] w fun e w' => e = .returned (.int .i64 (L.gen : Int)) ∧ w' = w := by
  obtain ⟨F, hl⟩ := h.log
  exact gen_any hl
theorem duo_room (h : Duo T W w lb db L d) (hc : Calm L d k) : Calls Tryd.prog 36 #[.pointer (some ⟨lb, 0, none⟩)] w fun e w' => e = .returned (.int .i64 (L.room : Int)) ∧ Below w.heap.size w w' := by
  obtain ⟨F, hl⟩ := h.log
  exact room_any hl hc.ok.inv.le (by have := hc.half; omega)
theorem duo_records (h : Duo T W w lb db L d) (hc : Calm L d k) (hk : k ≤ 1000) :
    Calls Tryd.prog 34 #[.pointer (some ⟨lb, 0, none⟩)] w fun e w' => ∃ v', e = .returned v' ∧ OwnStrs w.heap.size w' v' L.recs ∧ Below w.heap.size w w' := by
  obtain ⟨F, hl⟩ := h.log
  exact records_any hl (by have := hc.recs; omega)
end
end Go.Proofs.YtbdhicjebeoakaaDoor
