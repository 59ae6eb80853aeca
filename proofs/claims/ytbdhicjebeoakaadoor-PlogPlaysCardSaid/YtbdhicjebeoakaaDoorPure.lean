/- The disk as plain data: what each call answers and what it leaves, over lists of bytes; no program, no memory. -/
namespace Go.Proofs.YtbdhicjebeoakaaDoor

/-- How many bytes are kept of a write whose three bits are c. -/
def fateN (c : Int) : Nat := if c % 2 = 0 then 0 else if c = 1 then 64 else (16 * (c / 2)).toNat
def fate (bits i : Int) : Nat := if i < 0 then 0 else fateN ((bits / 2 ^ (3 * (i % 21)).toNat) % 8)

theorem fateN_cases (c : Int) (h0 : 0 ≤ c) (h8 : c < 8) : fateN c = 0 ∨ fateN c = 16 ∨ fateN c = 32 ∨ fateN c = 48 ∨ fateN c = 64 := by
  unfold fateN
  split
  · exact .inl rfl
  · split
    · exact .inr (.inr (.inr (.inr rfl)))
    · have : c = 3 ∨ c = 5 ∨ c = 7 := by omega
      rcases this with rfl | rfl | rfl <;> decide
theorem fate_cases (bits i : Int) : fate bits i = 0 ∨ fate bits i = 16 ∨ fate bits i = 32 ∨ fate bits i = 48 ∨ fate bits i = 64 := by
  unfold fate
  split
  · exact .inl rfl
  · exact fateN_cases _ (Int.emod_nonneg _ (by decide)) (Int.emod_lt_of_pos _ (by decide))
theorem fate_le (bits i : Int) : fate bits i ≤ 64 := by
  rcases fate_cases bits i with h | h | h | h | h <;> omega

/-- A disk. -/
structure DSt where
  kept : List (List UInt8)
  cache : List (Nat × List UInt8)
  off : Bool
  armed : Int
  bits : Int
  writes : Int

/-- The first k bytes of the new, the rest of the old. -/
def mix (k : Nat) (new old : List UInt8) : List UInt8 := new.take k ++ old.drop k
theorem mix_length (k : Nat) (new old : List UInt8) (h1 : new.length = 64) (h2 : old.length = 64) (hk : k ≤ 64) : (mix k new old).length = 64 := by
  simp [mix, h1, h2]; omega

def land (bits : Int) : Nat → List (Nat × List UInt8) → List (List UInt8) → List (List UInt8)
  | _, [], kept => kept
  | i, (a, s) :: r, kept => land bits (i + 1) r (kept.set a (mix (fate bits i) s (kept.getD a [])))
theorem land_snoc (bits : Int) (a : Nat) (s : List UInt8) : ∀ (l : List (Nat × List UInt8)) (i : Nat) (kept : List (List UInt8)),
    land bits i (l ++ [(a, s)]) kept = (land bits i l kept).set a (mix (fate bits ((i + l.length : Nat) : Int)) s ((land bits i l kept).getD a []))
  | [], i, kept => by simp [land]
  | (b, t) :: r, i, kept => by
    simp only [List.cons_append, land]
    rw [land_snoc bits a s r (i + 1)]
    simp only [List.length_cons, show i + 1 + r.length = i + (r.length + 1) by omega]
def keep : List (Nat × List UInt8) → List (List UInt8) → List (List UInt8)
  | [], kept => kept
  | (a, s) :: r, kept => keep r (kept.set a s)
theorem keep_snoc (a : Nat) (s : List UInt8) : ∀ (l : List (Nat × List UInt8)) (kept : List (List UInt8)), keep (l ++ [(a, s)]) kept = (keep l kept).set a s
  | [], kept => rfl
  | (b, t) :: r, kept => by simp only [List.cons_append, keep, keep_snoc a s r]
/-- What was written last at a. -/
def lastOf (a : Nat) : List (Nat × List UInt8) → List UInt8 → List UInt8
  | [], s => s
  | (b, t) :: r, s => lastOf a r (if b = a then t else s)
theorem lastOf_snoc (a b : Nat) (t : List UInt8) : ∀ (l : List (Nat × List UInt8)) (s : List UInt8), lastOf a (l ++ [(b, t)]) s = if b = a then t else lastOf a l s
  | [], s => rfl
  | (c, u) :: r, s => by simp only [List.cons_append, lastOf, lastOf_snoc a b t r]

theorem land_length (bits : Int) : ∀ (l : List (Nat × List UInt8)) (i : Nat) (kept : List (List UInt8)), (land bits i l kept).length = kept.length
  | [], _, _ => rfl
  | (a, s) :: r, i, kept => by simp only [land, land_length bits r, List.length_set]
theorem keep_length : ∀ (l : List (Nat × List UInt8)) (kept : List (List UInt8)), (keep l kept).length = kept.length
  | [], _ => rfl
  | (a, s) :: r, kept => by simp only [keep, keep_length r, List.length_set]

def All64 (l : List (List UInt8)) : Prop := ∀ s ∈ l, s.length = 64
def Fits (n : Nat) (l : List (Nat × List UInt8)) : Prop := ∀ x ∈ l, x.1 < n ∧ x.2.length = 64
theorem All64.set {l : List (List UInt8)} (h : All64 l) (a : Nat) {s : List UInt8} (hs : s.length = 64) : All64 (l.set a s) := by
  intro t ht
  rcases List.mem_or_eq_of_mem_set ht with h1 | h1
  · exact h t h1
  · rw [h1]; exact hs
theorem All64.getD {l : List (List UInt8)} (h : All64 l) {a : Nat} (ha : a < l.length) : (l.getD a []).length = 64 := by
  rw [List.getD_eq_getElem?_getD, List.getElem?_eq_getElem ha]
  exact h _ (List.getElem_mem ha)
theorem Fits.cons {n : Nat} {x : Nat × List UInt8} {l : List (Nat × List UInt8)} (h : Fits n (x :: l)) : x.1 < n ∧ x.2.length = 64 ∧ Fits n l :=
  ⟨(h x (by simp)).1, (h x (by simp)).2, fun y hy => h y (by simp [hy])⟩
theorem Fits.take {n : Nat} {l : List (Nat × List UInt8)} (h : Fits n l) (k : Nat) : Fits n (l.take k) := fun x hx => h x (List.mem_of_mem_take hx)
theorem land_all (bits : Int) : ∀ (l : List (Nat × List UInt8)) (i : Nat) (kept : List (List UInt8)), Fits kept.length l → All64 kept → All64 (land bits i l kept)
  | [], _, _, _, h => h
  | (a, s) :: r, i, kept, hf, h => by
    obtain ⟨h1, h2, h3⟩ := hf.cons
    refine land_all bits r (i + 1) _ (by rw [List.length_set]; exact h3) (h.set a ?_)
    exact mix_length _ _ _ h2 (h.getD h1) (fate_le _ _)
theorem keep_all : ∀ (l : List (Nat × List UInt8)) (kept : List (List UInt8)), Fits kept.length l → All64 kept → All64 (keep l kept)
  | [], _, _, h => h
  | (a, s) :: r, kept, hf, h => by
    obtain ⟨h1, h2, h3⟩ := hf.cons
    exact keep_all r _ (by rw [List.length_set]; exact h3) (h.set a h2)
theorem lastOf_len (a n : Nat) : ∀ (l : List (Nat × List UInt8)) (s : List UInt8), Fits n l → s.length = 64 → (lastOf a l s).length = 64
  | [], _, _, h => h
  | (b, t) :: r, s, hf, h => by
    obtain ⟨h1, h2, h3⟩ := hf.cons
    refine lastOf_len a n r _ h3 ?_
    split
    · exact h2
    · exact h

/-- What is always so. -/
structure DSt.Wf (d : DSt) : Prop where
  pos : 1 ≤ d.kept.length
  most : d.kept.length ≤ 4096
  all : All64 d.kept
  fits : Fits d.kept.length d.cache
  armed0 : 0 ≤ d.armed
  armed1 : d.armed ≤ 9223372036854775807
  bits0 : 0 ≤ d.bits
  bits1 : d.bits ≤ 18446744073709551615
  cw : (d.cache.length : Int) ≤ d.writes

def zeros64 : List UInt8 := List.replicate 64 0
def DSt.new (n : Nat) : DSt := { kept := List.replicate n zeros64, cache := [], off := false, armed := 0, bits := 0, writes := 0 }
def DSt.check (d : DSt) (at_ : Int) : Int := if d.off = true then 5 else if at_ < 0 ∨ (d.kept.length : Int) ≤ at_ then 2 else 0
def DSt.crash (d : DSt) (bits : Int) : DSt := if d.off = true then d else { d with kept := land bits 0 d.cache d.kept, cache := [], off := true }
def DSt.put (d : DSt) (a : Nat) (s : List UInt8) : DSt := { d with cache := d.cache ++ [(a, s)], writes := d.writes + 1 }
def DSt.write (d : DSt) (at_ : Int) (s : List UInt8) : Int × DSt :=
  if d.check at_ ≠ 0 then (d.check at_, d)
  else if s.length ≠ 64 then (1, d)
  else if d.armed = 0 then (0, d.put at_.toNat s)
  else if 0 < d.armed - 1 then (0, { d.put at_.toNat s with armed := d.armed - 1 })
  else (5, ({ d.put at_.toNat s with armed := d.armed - 1 } : DSt).crash d.bits)
def DSt.flush (d : DSt) : Int × DSt := if d.off = true then (5, d) else (0, { d with kept := keep d.cache d.kept, cache := [] })
def DSt.read (d : DSt) (at_ : Int) : List UInt8 × Int :=
  if d.check at_ ≠ 0 then ([], d.check at_) else (lastOf at_.toNat d.cache (d.kept.getD at_.toNat []), 0)
def DSt.arm (d : DSt) (c b : Int) : DSt := { d with armed := if 0 ≤ c then c else 0, bits := b }
def DSt.start (d : DSt) : DSt := { d with off := false, armed := 0 }
def DSt.keptAt (d : DSt) (at_ : Int) : List UInt8 := if at_ < 0 ∨ (d.kept.length : Int) ≤ at_ then [] else d.kept.getD at_.toNat []

theorem DSt.new_wf (n : Nat) (h1 : 1 ≤ n) (h2 : n ≤ 4096) : (DSt.new n).Wf where
  pos := by simp [DSt.new]; exact h1
  most := by simp [DSt.new]; exact h2
  all := by intro s hs; simp [DSt.new] at hs; rw [hs.2]; simp [zeros64]
  fits := by intro x hx; simp [DSt.new] at hx
  armed0 := by simp [DSt.new]
  armed1 := by simp [DSt.new]
  bits0 := by simp [DSt.new]
  bits1 := by simp [DSt.new]
  cw := by simp [DSt.new]
theorem DSt.crash_wf {d : DSt} (h : d.Wf) (bits : Int) : (d.crash bits).Wf := by
  unfold DSt.crash
  split
  · exact h
  · exact ⟨by simp [land_length]; exact h.pos, by simp [land_length]; exact h.most, land_all _ _ _ _ h.fits h.all, by intro x hx; simp at hx, h.armed0, h.armed1, h.bits0, h.bits1,
      by have := h.cw; have h2 : (0 : Int) ≤ d.cache.length := by omega
         simp; omega⟩
theorem DSt.put_wf {d : DSt} (h : d.Wf) {a : Nat} {s : List UInt8} (ha : a < d.kept.length) (hs : s.length = 64) : (d.put a s).Wf :=
  ⟨h.pos, h.most, h.all, by
    intro x hx
    simp only [DSt.put, List.mem_append, List.mem_singleton] at hx
    rcases hx with hx | hx
    · exact h.fits x hx
    · rw [hx]; exact ⟨ha, hs⟩, h.armed0, h.armed1, h.bits0, h.bits1, by have := h.cw; simp [DSt.put]; omega⟩
theorem DSt.check_zero {d : DSt} {at_ : Int} (h : d.check at_ = 0) : d.off = false ∧ 0 ≤ at_ ∧ at_ < d.kept.length := by
  unfold DSt.check at h
  split at h
  · cases h
  · rename_i h1
    split at h
    · cases h
    · exact ⟨by simpa using h1, by omega, by omega⟩
theorem DSt.write_wf {d : DSt} (h : d.Wf) (at_ : Int) (s : List UInt8) : (d.write at_ s).2.Wf := by
  unfold DSt.write
  split
  · exact h
  · rename_i hc
    have hc' : d.check at_ = 0 := by simpa using hc
    obtain ⟨h1, h2, h3⟩ := DSt.check_zero hc'
    split
    · exact h
    · rename_i hs
      have hp := DSt.put_wf h (a := at_.toNat) (s := s) (by omega) (by simpa using hs)
      split
      · exact hp
      · have hp' : ({ d.put at_.toNat s with armed := d.armed - 1 } : DSt).Wf :=
          ⟨hp.pos, hp.most, hp.all, hp.fits, by have := h.armed0; show 0 ≤ d.armed - 1; omega, by have := h.armed1; show d.armed - 1 ≤ _; omega, hp.bits0, hp.bits1, hp.cw⟩
        split
        · exact hp'
        · exact DSt.crash_wf hp' _
theorem DSt.flush_wf {d : DSt} (h : d.Wf) : d.flush.2.Wf := by
  unfold DSt.flush
  split
  · exact h
  · exact ⟨by simp [keep_length]; exact h.pos, by simp [keep_length]; exact h.most, keep_all _ _ h.fits h.all, by intro x hx; simp at hx, h.armed0, h.armed1, h.bits0, h.bits1,
      by have := h.cw; simp; omega⟩
theorem DSt.arm_wf {d : DSt} (h : d.Wf) {c b : Int} (hc : c ≤ 9223372036854775807) (hb : 0 ≤ b) (hb' : b ≤ 18446744073709551615) : (d.arm c b).Wf :=
  ⟨h.pos, h.most, h.all, h.fits, by simp [DSt.arm]; split <;> omega, by simp [DSt.arm]; split <;> omega, hb, hb', h.cw⟩
theorem DSt.start_wf {d : DSt} (h : d.Wf) : d.start.Wf := ⟨h.pos, h.most, h.all, h.fits, by simp [DSt.start], by simp [DSt.start], h.bits0, h.bits1, h.cw⟩
end Go.Proofs.YtbdhicjebeoakaaDoor
