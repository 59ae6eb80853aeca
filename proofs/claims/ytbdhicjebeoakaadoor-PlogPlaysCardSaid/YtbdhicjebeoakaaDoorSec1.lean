/- Package sector and its reference: within, Right, get, value, number, put. -/
import Derived.Test.YtbdhicjebeoakaaDoorRows
import Derived.Test.YtbdhicjebeoakaaDoorSecP
import Derived.Test.YtbdhicjebeoakaaDoorMem
set_option linter.unusedVariables false
set_option linter.unusedSimpArgs false
namespace Go.Proofs.YtbdhicjebeoakaaDoor
open Go.RowKit

def pcV (p : Pc) : Array Value := #[.int .u64 (p.stamp : Int), .int .i64 p.gen, .int .i64 p.no, .int .i64 p.index, .int .i64 p.total, .string ⟨p.data.toArray⟩]
theorem within_any (n up : Int) (w : World) : Calls Tryd.prog 49 #[.int .i64 n, .int .i64 up] w fun e w' => e = .returned (.bool (decide (0 ≤ n ∧ n < up))) ∧ w = w' := by
  by_cases h : 0 ≤ n
  · go_enter Tryd.func49, Tryd.ntmps49
    go_wp2
    go_ret
    exact ⟨ret_bool (by simp [h]), rfl⟩
  · go_enter Tryd.func49, Tryd.ntmps49
    go_wp2
    go_ret
    exact ⟨ret_bool (by rw [Bool.eq_iff_iff]; simp; omega), rfl⟩
theorem right_any (st : Nat) (ge no ix to : Int) (da : List UInt8) (w : World) (hd : da.length ≤ 9223372036854775807) :
    Calls Tryd.prog 15 #[.agg #[.int .u64 (st : Int), .int .i64 ge, .int .i64 no, .int .i64 ix, .int .i64 to, .string ⟨da.toArray⟩]] w fun e w' => e = .returned (.bool (Pc.right ⟨st, ge, no, ix, to, da⟩)) ∧ Below w.heap.size w w' := by
  have hsz : (⟨da.toArray⟩ : ByteArray).size = da.length := by simp [ByteArray.size]
  go_enter Tryd.func15, Tryd.ntmps15
  go_wp2_with (go_at_call 49; refine (within_any _ _ _).mono ?_; rintro e w' ⟨rfl, rfl⟩)
  all_goals
    go_ret
    refine ⟨ret_bool ?_, (Below.refl _ _).alloc (Nat.le_refl _) _⟩
    rw [Bool.eq_iff_iff]
    simp [Pc.right]
    omega
theorem rright_any (st : Nat) (ge no ix to : Int) (da : List UInt8) (w : World) (hd : da.length ≤ 9223372036854775807) :
    Calls Tryd.prog 13 #[.agg #[.int .u64 (st : Int), .int .i64 ge, .int .i64 no, .int .i64 ix, .int .i64 to, .string ⟨da.toArray⟩]] w fun e w' => e = .returned (.bool (Pc.right ⟨st, ge, no, ix, to, da⟩)) ∧ Below w.heap.size w w' := by
  have hsz : (⟨da.toArray⟩ : ByteArray).size = da.length := by simp [ByteArray.size]
  go_enter Tryd.func13, Tryd.ntmps13
  go_wp2
  all_goals
    go_ret
    refine ⟨ret_bool ?_, (Below.refl _ _).alloc (Nat.le_refl _) _⟩
    rw [Bool.eq_iff_iff]
    simp [Pc.right]
    omega
theorem or_byte (n c : Nat) (hn : n < 256 ^ 7) (hc : c < 256) : Go.bits BinOp.or IntKind.u64 ((n : Int) * 256) (IntKind.u64.wrap (c : Int)) = ((256 * n + c : Nat) : Int) := by
  have hw : IntKind.u64.wrap (c : Int) = (c : Int) := by simp [IntKind.wrap, IntKind.bits, IntKind.signed]; omega
  have h1 : (BitVec.ofInt 64 ((n : Int) * 256)).toNat = 256 * n := by
    rw [BitVec.toNat_ofInt, show (n : Int) * 256 = ((256 * n : Nat) : Int) by omega, Int.emod_eq_of_lt (by omega) (by omega)]
    rfl
  have h2 : (BitVec.ofInt 64 (c : Int)).toNat = c := by
    rw [BitVec.toNat_ofInt, Int.emod_eq_of_lt (by omega) (by omega)]
    rfl
  rw [hw]
  show IntKind.u64.wrap ((BitVec.ofInt 64 ((n : Int) * 256) ||| BitVec.ofInt 64 (c : Int)).toNat : Int) = _
  rw [BitVec.toNat_or, h1, h2, show 256 * n = 2 ^ 8 * n by omega, ← Nat.two_pow_add_eq_or_of_lt (by omega : c < 2 ^ 8)]
  simp [IntKind.wrap, IntKind.bits, IntKind.signed]
  omega
theorem add_byte (n c : Nat) (hn : n < 256 ^ 7) (hc : c < 256) : IntKind.u64.wrap (256 * (n : Int) + IntKind.u64.wrap (c : Int)) = ((256 * n + c : Nat) : Int) := by
  simp [IntKind.wrap, IntKind.bits, IntKind.signed]
  omega
theorem get_any (s : List UInt8) (hs : s.length ≤ 8) (w : World) :
    Calls Tryd.prog 51 #[.string ⟨s.toArray⟩] w fun e w' => e = .returned (.int .u64 (valL s : Int)) ∧ w = w' := by
  have hsz : (⟨s.toArray⟩ : ByteArray).size = s.length := by simp [ByteArray.size]
  go_enter Tryd.func51, Tryd.ntmps51
  go_wp2_with fail
  go_loopw [2, 6] (fun n p wr => ∃ i : Nat, p = .int .i64 (i : Int) ∧ n = .int .u64 (valL (s.take i) : Int) ∧ i ≤ s.length ∧ w = wr) (fun _ p _ => match p with | .int _ i => s.length - i.toNat | _ => 0)
  case atStart => exact ⟨0, rfl, rfl, by omega, rfl⟩
  case round =>
    obtain ⟨i, rfl, rfl, hi, rfl⟩ := hrel
    by_cases hlt : i < s.length
    · have h1 : valL (s.take (i + 1)) = 256 * valL (s.take i) + (s[i]).toNat := by
        rw [List.take_succ_eq_append_getElem hlt, valL_snoc]
      have h2 := valL_lt (s.take i)
      rw [List.length_take, Nat.min_eq_left (by omega)] at h2
      have h3 : 256 ^ i ≤ 256 ^ 7 := Nat.pow_le_pow_right (by decide) (by omega)
      generalize valL (s.take i) = n at h1 h2
      have H1 := Lib.hid h1
      have H2 : n < 256 ^ 7 := by omega
      clear h1 h2 h3
      go_wp2_with fail
      refine ⟨⟨i + 1, rfl, ?_, by omega, trivial⟩, ?_⟩
      · rw [H1.out]
        have hb : ({ data := s.toArray } : ByteArray)[i].toNat = s[i].toNat := rfl
        rw [hb, or_byte n _ H2 (s[i]).toNat_lt]
      · show s.length - ((i : Int) + 1).toNat < s.length - (i : Int).toNat
        omega
    · obtain rfl : i = s.length := by omega
      rw [List.take_length]
      go_wp2
      go_ret
      exact ⟨rfl, rfl⟩
theorem value_any (s : List UInt8) (hs : s.length ≤ 8) (w : World) :
    Calls Tryd.prog 53 #[.string ⟨s.toArray⟩] w fun e w' => e = .returned (.int .u64 (valL s : Int)) ∧ w = w' := by
  have hsz : (⟨s.toArray⟩ : ByteArray).size = s.length := by simp [ByteArray.size]
  go_enter Tryd.func53, Tryd.ntmps53
  go_wp2_with fail
  go_loopw [3, 4] (fun n p wr => ∃ i : Nat, p = .int .i64 (i : Int) ∧ n = .int .u64 (valL (s.take i) : Int) ∧ i ≤ s.length ∧ w = wr) (fun _ p _ => match p with | .int _ i => s.length - i.toNat | _ => 0)
  case atStart => exact ⟨0, rfl, rfl, by omega, rfl⟩
  case round =>
    obtain ⟨i, rfl, rfl, hi, rfl⟩ := hrel
    by_cases hlt : i < s.length
    · have h1 : valL (s.take (i + 1)) = 256 * valL (s.take i) + (s[i]).toNat := by
        rw [List.take_succ_eq_append_getElem hlt, valL_snoc]
      have h2 := valL_lt (s.take i)
      rw [List.length_take, Nat.min_eq_left (by omega)] at h2
      have h3 : 256 ^ i ≤ 256 ^ 7 := Nat.pow_le_pow_right (by decide) (by omega)
      generalize valL (s.take i) = n at h1 h2
      have H1 := Lib.hid h1
      have H2 : n < 256 ^ 7 := by omega
      clear h1 h2 h3
      go_wp2_with fail
      refine ⟨⟨i + 1, rfl, ?_, by omega, trivial⟩, ?_⟩
      · rw [H1.out]
        have hb : ({ data := s.toArray } : ByteArray)[i].toNat = s[i].toNat := rfl
        rw [hb, add_byte n _ H2 (s[i]).toNat_lt]
      · show s.length - ((i : Int) + 1).toNat < s.length - (i : Int).toNat
        omega
    · obtain rfl : i = s.length := by omega
      rw [List.take_length]
      go_wp2
      go_ret
      exact ⟨rfl, rfl⟩
theorem beL_getD : ∀ (k n i : Nat), i < k → (beL k n)[i]? = some (UInt8.ofNat (n / 256 ^ (k - 1 - i) % 256))
  | 0, n, i, h => by omega
  | k + 1, n, i, h => by
    rw [beL]
    by_cases hi : i < k
    · rw [List.getElem?_append_left (by rw [beL_length]; exact hi), beL_getD k _ i hi, Nat.div_div_eq_div_mul, show k + 1 - 1 - i = (k - 1 - i) + 1 by omega, Nat.pow_succ, Nat.mul_comm]
    · rw [List.getElem?_append_right (by rw [beL_length]; omega), beL_length, show i - k = 0 by omega, show k + 1 - 1 - i = 0 by omega]
      simp
theorem beL_cons : ∀ (k n : Nat), beL (k + 1) n = UInt8.ofNat (n / 256 ^ k % 256) :: beL k n
  | 0, n => by simp [beL]
  | k + 1, n => by
    rw [beL, beL_cons k (n / 256), Nat.div_div_eq_div_mul, Nat.mul_comm, ← Nat.pow_succ]
    simp [beL]
/-- A row of bytes, n laid into k of them. -/
def laid (l : List UInt8) (off k n : Nat) : List UInt8 := l.take off ++ beL k n ++ l.drop (off + k)
theorem laid_length (l : List UInt8) (off k n : Nat) (h : off + k ≤ l.length) : (laid l off k n).length = l.length := by simp [laid, beL_length]; omega
theorem put_step (l : List UInt8) (off k n j : Nat) (hj : j < k) (hl : off + k ≤ l.length) :
    (bv (l.take (off + k - j) ++ beL j n ++ l.drop (off + k))).set (off + (k - 1 - j)) (.int .u8 ((UInt8.ofNat (n / 256 ^ j % 256)).toNat : Int)) = bv (l.take (off + k - (j + 1)) ++ beL (j + 1) n ++ l.drop (off + k)) := by
  have hb : ∀ (m : List UInt8) (i : Nat) (c : UInt8), (bv m).set i (.int .u8 (c.toNat : Int)) = bv (m.set i c) := fun m i c => by simp [bv, List.map_set]
  rw [hb]
  congr 1
  have e : off + (k - 1 - j) = off + k - (j + 1) := by omega
  have h1 : l.take (off + k - j) = l.take (off + k - (j + 1)) ++ [l.getD (off + k - (j + 1)) 0] := by
    rw [show off + k - j = off + k - (j + 1) + 1 by omega, List.take_succ_eq_append_getElem (by omega), List.getD_eq_getElem?_getD, List.getElem?_eq_getElem (by omega)]
    rfl
  rw [e, h1, beL_cons]
  have h2 : (l.take (off + k - (j + 1))).length = off + k - (j + 1) := by simp; omega
  simp only [List.append_assoc, List.cons_append, List.nil_append]
  rw [List.set_append_right _ _ (by omega), h2, Nat.sub_self, List.set_cons_zero]
theorem put_any (l : List UInt8) (g off k n c : Nat) (t : TypeId) (w : World) (hg : w.heap[g]? = some (.cells (bv l).toArray t (0, 0))) (hl : off + k ≤ l.length) (hk : k ≤ 64) (hn : n < 18446744073709551616) :
    Calls Tryd.prog 48 #[.slice (some ⟨g, off, none⟩) k c, .int .u64 (n : Int)] w fun e w' => e = .returned (.tuple #[]) ∧ Fr (fun x => x = g) w w' ∧ w'.heap[g]? = some (.cells (bv (laid l off k n)).toArray t (0, 0)) := by
  go_enter Tryd.func48, Tryd.ntmps48
  go_wp2_with fail
  go_loopw [1, 4] (fun m p wr => ∃ j : Nat, p = .int .i64 ((k : Int) - 1 - j) ∧ m = .int .u64 ((n / 256 ^ j : Nat) : Int) ∧ j ≤ k ∧ Fr (fun x => x = g) w wr ∧ wr.heap[g]? = some (.cells (bv (l.take (off + k - j) ++ beL j n ++ l.drop (off + k))).toArray t (0, 0))) (fun _ p _ => match p with | .int _ i => (i + 1).toNat | _ => 0)
  case atStart => exact ⟨0, by simp, by simp, by omega, Fr.refl _ _, by simpa [beL] using hg⟩
  case round =>
    obtain ⟨j, rfl, rfl, hj, hf, hb⟩ := hrel
    by_cases hlt : j < k
    · have hn2 : n / 256 ^ j < 18446744073709551616 := Nat.lt_of_le_of_lt (Nat.div_le_self _ _) hn
      have hi : ((k : Int) - 1 - j) = ((k - 1 - j : Nat) : Int) := by omega
      rw [hi]
      have hil : k - 1 - j < k := by omega
      have hlen : (l.take (off + k - j) ++ beL j n ++ l.drop (off + k)).length = l.length := by simp [beL_length]; omega
      have hx : off + (k - 1 - j) < (l.take (off + k - j) ++ beL j n ++ l.drop (off + k)).length := by rw [hlen]; omega
      have HC : ∃ x, wr.cell? ⟨g, off + (k - 1 - j), none⟩ = some (.int .u8 x) := by
        rw [block_cell hb, List.getElem?_toArray, bv_get, List.getElem?_eq_getElem hx]
        exact ⟨_, rfl⟩
      obtain ⟨x, HC⟩ := HC
      have hf0 : wr.frozen? ⟨g, off + (k - 1 - j), none⟩ = false := block_free hb _
      have HF := Lib.hid hf
      have HB := Lib.hid hb
      clear hf hb hx hlen
      go_wp2_with fail
      refine ⟨⟨j + 1, ?_, ?_, by omega, HF.out.setCell (.inl rfl) _, ?_⟩, ?_⟩
      · exact congrArg (Value.int IntKind.i64) (by omega)
      · refine congrArg (Value.int IntKind.u64) ?_
        rw [Nat.pow_succ, ← Nat.div_div_eq_div_mul]
        simp
      · have e1 : ((n : Int) / 256 ^ j % 256) = ((n / 256 ^ j % 256 : Nat) : Int) := by simp
        rw [e1]
        have e2 : Value.int IntKind.u8 ((n / 256 ^ j % 256 : Nat) : Int) = .int .u8 ((UInt8.ofNat (n / 256 ^ j % 256)).toNat : Int) := by rw [ofNat_toNat8]
        rw [e2, heap_setCell_six _ HB.out]
        congr 2
        rw [List.setIfInBounds_toArray]
        congr 1
        exact put_step l off k n j hlt hl
      · show ((((k - 1 - j : Nat) : Int) - 1) + 1).toNat < (((k - 1 - j : Nat) : Int) + 1).toNat
        omega
    · obtain rfl : j = k := by omega
      have hi : ((j : Int) - 1 - j) = -1 := by omega
      rw [hi]
      go_wp2_with fail
      go_end0
      refine ⟨rfl, hf, ?_⟩
      rw [hb]
      congr 4
      rw [laid, show off + j - j = off by omega]
end Go.Proofs.YtbdhicjebeoakaaDoor
