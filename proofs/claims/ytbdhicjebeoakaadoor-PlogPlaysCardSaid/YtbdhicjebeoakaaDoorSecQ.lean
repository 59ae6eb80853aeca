/- Plain laws of sectors: what is printed is read; a text's sectors give it back; torn and turned sectors are none. -/
import Derived.Test.YtbdhicjebeoakaaDoorLayP
set_option linter.unusedVariables false
set_option linter.unusedSimpArgs false
namespace Go.Proofs.YtbdhicjebeoakaaDoor

theorem sub_mid (X M Y : List UInt8) (a b : Nat) (ha : X.length = a) (hb : a + M.length = b) : sub (X ++ M ++ Y) a b = M := by
  unfold sub
  have h1 : (X ++ M ++ Y).take b = X ++ M := by rw [← hb, ← ha, ← List.length_append, List.take_left]
  rw [h1, ← ha, List.drop_left]
theorem valL_print (k n : Nat) (h : n < 256 ^ k) : valL (beL k n) = n := valL_beL k n h
/-- A sector, its parts as one row. -/
theorem print_parts (p : Pc) : p.print = beL 8 p.stamp ++ (beL 4 p.gen.toNat ++ (beL 2 p.no.toNat ++ (beL 2 p.index.toNat ++ (beL 2 p.total.toNat ++ (beL 1 p.data.length ++ (p.data ++ (List.replicate (37 - p.data.length) 0 ++ beL 8 p.stamp))))))) := by
  simp only [Pc.print, List.append_assoc]
theorem pieceOf_print (p : Pc) (hr : p.right = true) (hs : p.stamp < 18446744073709551616) : pieceOf p.print = p ∧ (p.print.getD 18 0).toNat = p.data.length := by
  rw [Pc.right_iff] at hr
  have hL := p.print_length (by omega)
  have b8 : (beL 8 p.stamp).length = 8 := beL_length _ _
  have b4 : (beL 4 p.gen.toNat).length = 4 := beL_length _ _
  have bn : (beL 2 p.no.toNat).length = 2 := beL_length _ _
  have bi : (beL 2 p.index.toNat).length = 2 := beL_length _ _
  have bt : (beL 2 p.total.toNat).length = 2 := beL_length _ _
  have bl : (beL 1 p.data.length).length = 1 := beL_length _ _
  have e0 : sub p.print 0 8 = beL 8 p.stamp := by
    rw [print_parts, ← List.nil_append (beL 8 p.stamp), List.append_assoc]
    rw [← List.append_assoc [] (beL 8 p.stamp)]
    exact sub_mid [] _ _ 0 8 rfl (by rw [b8])
  have e1 : sub p.print 8 12 = beL 4 p.gen.toNat := by
    rw [print_parts, ← List.append_assoc (beL 8 p.stamp)]
    exact sub_mid _ _ _ 8 12 b8 (by rw [b4])
  have e2 : sub p.print 12 14 = beL 2 p.no.toNat := by
    rw [print_parts, ← List.append_assoc (beL 8 p.stamp), ← List.append_assoc (beL 8 p.stamp ++ beL 4 p.gen.toNat)]
    exact sub_mid _ _ _ 12 14 (by rw [List.length_append, b8, b4]) (by rw [bn])
  have e3 : sub p.print 14 16 = beL 2 p.index.toNat := by
    rw [print_parts, ← List.append_assoc (beL 8 p.stamp), ← List.append_assoc (beL 8 p.stamp ++ beL 4 p.gen.toNat), ← List.append_assoc (beL 8 p.stamp ++ beL 4 p.gen.toNat ++ beL 2 p.no.toNat)]
    exact sub_mid _ _ _ 14 16 (by simp only [List.length_append, b8, b4, bn]) (by rw [bi])
  have e4 : sub p.print 16 18 = beL 2 p.total.toNat := by
    rw [print_parts, ← List.append_assoc (beL 8 p.stamp), ← List.append_assoc (beL 8 p.stamp ++ beL 4 p.gen.toNat), ← List.append_assoc (beL 8 p.stamp ++ beL 4 p.gen.toNat ++ beL 2 p.no.toNat), ← List.append_assoc (beL 8 p.stamp ++ beL 4 p.gen.toNat ++ beL 2 p.no.toNat ++ beL 2 p.index.toNat)]
    exact sub_mid _ _ _ 16 18 (by simp only [List.length_append, b8, b4, bn, bi]) (by rw [bt])
  have e5 : sub p.print 18 19 = beL 1 p.data.length := by
    rw [print_parts, ← List.append_assoc (beL 8 p.stamp), ← List.append_assoc (beL 8 p.stamp ++ beL 4 p.gen.toNat), ← List.append_assoc (beL 8 p.stamp ++ beL 4 p.gen.toNat ++ beL 2 p.no.toNat), ← List.append_assoc (beL 8 p.stamp ++ beL 4 p.gen.toNat ++ beL 2 p.no.toNat ++ beL 2 p.index.toNat),
      ← List.append_assoc (beL 8 p.stamp ++ beL 4 p.gen.toNat ++ beL 2 p.no.toNat ++ beL 2 p.index.toNat ++ beL 2 p.total.toNat)]
    exact sub_mid _ _ _ 18 19 (by simp only [List.length_append, b8, b4, bn, bi, bt]) (by rw [bl])
  have e6 : sub p.print 19 (19 + p.data.length) = p.data := by
    rw [print_parts, ← List.append_assoc (beL 8 p.stamp), ← List.append_assoc (beL 8 p.stamp ++ beL 4 p.gen.toNat), ← List.append_assoc (beL 8 p.stamp ++ beL 4 p.gen.toNat ++ beL 2 p.no.toNat), ← List.append_assoc (beL 8 p.stamp ++ beL 4 p.gen.toNat ++ beL 2 p.no.toNat ++ beL 2 p.index.toNat),
      ← List.append_assoc (beL 8 p.stamp ++ beL 4 p.gen.toNat ++ beL 2 p.no.toNat ++ beL 2 p.index.toNat ++ beL 2 p.total.toNat),
      ← List.append_assoc (beL 8 p.stamp ++ beL 4 p.gen.toNat ++ beL 2 p.no.toNat ++ beL 2 p.index.toNat ++ beL 2 p.total.toNat ++ beL 1 p.data.length)]
    exact sub_mid _ _ _ 19 _ (by simp only [List.length_append, b8, b4, bn, bi, bt, bl]) rfl
  have h18 : p.print.getD 18 0 = UInt8.ofNat (p.data.length % 256) := by
    rw [sub_one p.print 18 (by omega)] at e5
    simp only [beL, List.nil_append] at e5
    exact (List.cons.inj e5).1
  have hd : (p.print.getD 18 0).toNat = p.data.length := by rw [h18, ofNat_toNat8]; omega
  refine ⟨?_, hd⟩
  unfold pieceOf
  rw [hd, e0, e1, e2, e3, e4, e6, valL_beL 8 _ (by omega), valL_beL 4 _ (by omega), valL_beL 2 _ (by omega), valL_beL 2 _ (by omega), valL_beL 2 _ (by omega)]
  obtain ⟨st, ge, no, ix, to, da⟩ := p
  simp only at hr
  simp only [Pc.mk.injEq]
  refine ⟨trivial, ?_, ?_, ?_, ?_, trivial⟩ <;> omega
theorem readR_print (p : Pc) (hr : p.right = true) (hs : p.stamp < 18446744073709551616) : readR p.print = some p := by
  obtain ⟨h1, h2⟩ := pieceOf_print p hr hs
  have hl := p.print_length (by rw [Pc.right_iff] at hr; omega)
  unfold readR
  rw [if_neg (by rw [h2]; rw [Pc.right_iff] at hr; omega), h1, if_pos ⟨hr, rfl⟩]
theorem print_inj {p q : Pc} (hp : p.right = true) (hps : p.stamp < 18446744073709551616) (hq : q.right = true) (hqs : q.stamp < 18446744073709551616) (h : p.print = q.print) : p = q := by
  have := readR_print p hp hps
  rw [h, readR_print q hq hqs] at this
  exact (Option.some.inj this).symm
theorem readR_torn (s : List UInt8) (h : sub s 0 8 ≠ s.drop 56) : readR s = none := by
  rw [← readS_eq]
  unfold readS
  exact if_pos (.inr (.inl h))
theorem print_head (p : Pc) : p.print.take 8 = beL 8 p.stamp := by
  rw [print_parts]
  exact List.take_left' (beL_length _ _)
theorem print_tail (p : Pc) (h : p.data.length ≤ 37) : p.print.drop 56 = beL 8 p.stamp := by
  have : (beL 8 p.stamp ++ beL 4 p.gen.toNat ++ beL 2 p.no.toNat ++ beL 2 p.index.toNat ++ beL 2 p.total.toNat ++ beL 1 p.data.length ++ p.data ++ List.replicate (37 - p.data.length) 0).length = 56 := by
    simp only [List.length_append, beL_length, List.length_replicate]; omega
  exact List.drop_left' this
theorem beL_inj (k m n : Nat) (hm : m < 256 ^ k) (hn : n < 256 ^ k) (h : beL k m = beL k n) : m = n := by
  have := valL_beL k m hm
  rw [h, valL_beL k n hn] at this
  exact this.symm
/-- A beginning of the one sector, and the rest of another one with an unlike stamp. -/
theorem torn_none (a b : Pc) (cut : Nat) (ha : a.data.length ≤ 37) (hb : b.data.length ≤ 37) (has : a.stamp < 18446744073709551616) (hbs : b.stamp < 18446744073709551616) (hne : a.stamp ≠ b.stamp) (h8 : 8 ≤ cut) (h56 : cut ≤ 56) :
    readR (a.print.take cut ++ b.print.drop cut) = none := by
  have la := a.print_length ha
  have lb := b.print_length hb
  refine readR_torn _ (fun e => hne (beL_inj 8 _ _ has hbs ?_))
  have h1 : sub (a.print.take cut ++ b.print.drop cut) 0 8 = beL 8 a.stamp := by
    unfold sub
    rw [List.drop_zero, List.take_append_of_le_length (by rw [List.length_take]; omega), List.take_take, Nat.min_eq_left h8, print_head]
  have h2 : (a.print.take cut ++ b.print.drop cut).drop 56 = beL 8 b.stamp := by
    have hl : (a.print.take cut).length = cut := by rw [List.length_take]; omega
    rw [List.drop_append, hl, List.drop_eq_nil_of_le (by omega), List.nil_append, List.drop_drop, show cut + (56 - cut) = 56 by omega, print_tail b hb]
  rw [h1, h2] at e
  exact e
/-- One byte of a stamp turned. -/
theorem turned_none (a : Pc) (i : Nat) (c : UInt8) (ha : a.data.length ≤ 37) (hi : i < 8 ∨ (56 ≤ i ∧ i < 64)) (hc : a.print[i]? ≠ some c) : readR (a.print.set i c) = none := by
  have la := a.print_length ha
  refine readR_torn _ (fun e => hc ?_)
  have hil : i < a.print.length := by omega
  unfold sub at e
  rw [List.drop_zero] at e
  have ht := print_head a
  have hd := print_tail a ha
  rcases hi with hi | ⟨h1, h2⟩
  · rw [List.drop_set_of_lt (by omega), hd, ← ht] at e
    have h3 := congrArg (fun l : List UInt8 => l[i]?) e
    simp only [List.getElem?_take, hi, if_true, List.getElem?_set_self hil] at h3
    exact h3.symm
  · have e1 : (a.print.set i c).take 8 = a.print.take 8 := by rw [List.take_set_of_le (by omega)]
    rw [e1, ht, ← hd] at e
    have h3 := congrArg (fun l : List UInt8 => l[i - 56]?) e
    simp only [List.getElem?_drop, show 56 + (i - 56) = i by omega, List.getElem?_set_self hil] at h3
    exact h3
end Go.Proofs.YtbdhicjebeoakaaDoor
