/- sector.Lay. -/
import Derived.Test.YtbdhicjebeoakaaDoorNext
import Derived.Test.YtbdhicjebeoakaaDoorSec3
set_option linter.unusedVariables false
set_option linter.unusedSimpArgs false
namespace Go.Proofs.YtbdhicjebeoakaaDoor
open Go.RowKit

def sv (s : List UInt8) : Value := .string ⟨s.toArray⟩
def strs (l : List (List UInt8)) : List Value := l.map sv
theorem strs_length (l : List (List UInt8)) : (strs l).length = l.length := by simp [strs]
theorem strs_append (a b : List (List UInt8)) : strs (a ++ b) = strs a ++ strs b := by simp [strs]
theorem strs_get (l : List (List UInt8)) (i : Nat) : (strs l)[i]? = l[i]?.map sv := by simp [strs]
/-- A slice of strings that the call made itself. -/
def OwnStrs (base : Nat) (w : World) (v : Value) (l : List (List UInt8)) : Prop := w.ownsRow base 9 1 v l.length (strs l)
theorem info_str : (Tryd.prog.info? 9).map (fun i => (i.zero, i.size, i.bytes)) = some (some (.string ⟨#[]⟩), 1, 16) := by kernel_rfl
/-- One string appended to a row of the call's own. -/
theorem wpList_append_str {ops : Array Oper} {rest : List Oper} {o : Oper} {a : Act} {w : World} {Q : Exit → Act → World → Prop} (hg : o.guard = none) (s x : Operand)
    (ho : o.op = .call { callee := .builtin .append, args := #[s, x], argTypes := #[41, 41] })
    (base : Nat) (v : Value) (l : List (List UInt8)) (c : List UInt8) (hs : a.eval s = v) (hown : OwnStrs base w v l) (hx : a.eval x = .slice (some ⟨w.heap.size, 0, none⟩) 1 1) (hn : l.length ≤ 1000000000) (hb : base ≤ w.heap.size)
    (h : ∀ v' w', OwnStrs base w' v' (l ++ [c]) → Below base w w' → wpList Tryd.prog ops Q rest (a.put o.dst v') w') :
    wpList Tryd.prog ops Q (o :: rest) a (w.alloc (.cells #[.string ⟨c.toArray⟩] 9)) :=
  wpList_plain hg fun _ hK => by
    obtain ⟨i0, hi0, hz0, hz1, hz2⟩ := info_parts info_str
    refine wp_append_at _ _ _ 41 ho base 9 i0 (.string ⟨#[]⟩) 1 16 (by kernel_rfl) hi0 hz0 hz1 hz2 rfl (by decide) v l.length (strs l) hs (World.ownsRow.alloc hown _) ⟨w.heap.size, 0, none⟩ 1 1 [sv c] hx rfl (fun j u hu => ?_) (fun u hu => ?_) (by simp only [maxLen]; omega) (by omega) (by simp; omega) ?_
    · rw [add_at, block_cell (heap_alloc_new _ _), Nat.zero_add, List.getElem?_toArray]; exact hu
    · simp only [List.mem_singleton] at hu; subst hu; rfl
    · intro cv' w1 hown1 hg1 _ hat
      refine hK _ _ (h cv' w1 ?_ ?_)
      · unfold OwnStrs
        rw [strs_append, List.length_append]
        exact hown1
      · exact ((Below.refl base w).alloc hb _).grown hg1 (Nat.le_trans hb (by simp)) (fun g hg => (hown.lt _ hg).1)
theorem OwnStrs.on {base : Nat} {w w' : World} {v : Value} {l : List (List UInt8)} (h : OwnStrs base w v l) (hb : Below w.heap.size w w') : OwnStrs base w' v l := by
  refine World.ownsRow.kept h (row := none) ⟨hb.os, hb.tape, hb.output, hb.size, fun k hk _ => hb.block k hk⟩ (by cases v.ownBlock <;> simp)
def nilS : Value := .slice none 0 0
theorem OwnStrs.nil (base : Nat) (w : World) : OwnStrs base w nilS [] := World.ownsRow_nil _ _ _ _
def LayPost (base : Nat) (l : List (List UInt8)) (u : Value) (w : World) (e : Ending) (w' : World) : Prop := ∃ v, e = .returned (.tuple #[v, u]) ∧ OwnStrs base w' v l ∧ Below base w w'
theorem take_ext (s : List UInt8) (n : Nat) : (⟨s.toArray⟩ : ByteArray).extract 0 n = ⟨(s.take n).toArray⟩ := by rw [ext_sub]; simp [sub]
theorem drop_ext (s : List UInt8) (n : Nat) : (⟨s.toArray⟩ : ByteArray).extract n s.length = ⟨(s.drop n).toArray⟩ := by rw [ext_sub]; simp [sub]
set_option maxRecDepth 20000 in
set_option maxHeartbeats 4000000 in
theorem lay_ok (s : List UInt8) (st ge no : Nat) (w : World) (hs : s.length ≤ 1000000000) (hst : st < 18446744073709551616) (hok : layOk s ge no = true) :
    Calls Tryd.prog 19 #[.string ⟨s.toArray⟩, .int .u64 (st : Int), .int .i64 (ge : Int), .int .i64 (no : Int)] w (LayPost w.heap.size (layL s st ge no) (.int .i64 0) w) := by
  have hsz : ∀ l : List UInt8, (⟨l.toArray⟩ : ByteArray).size = l.length := fun l => by simp [ByteArray.size]
  have hsz0 := hsz s
  clear hsz
  have hcp := countOf_pos s.length
  have hcu : countOf s.length ≤ 1000000000 := by unfold countOf; split <;> omega
  have HOK := Lib.hid hok
  clear hok
  go_enter Tryd.func19, Tryd.ntmps19
  go_wp2_with fail
  refine (count_any _ w (by omega) (by omega)).mono ?_
  rintro e w' ⟨rfl, rfl⟩
  rw [Int.toNat_natCast]
  obtain ⟨n, hn⟩ : ∃ n, n = countOf s.length := ⟨_, rfl⟩
  rw [← hn] at hcp hcu ⊢
  have HN := Lib.hid hn
  clear hn
  go_wp2_with fail
  go_loopw [0, 8, 19] (fun sv lv i wr => ∃ k : Nat, i = .int .i64 (k : Int) ∧ sv = .string ⟨(s.drop (37 * k)).toArray⟩ ∧ k ≤ n ∧ Below w.heap.size w wr ∧ OwnStrs w.heap.size wr lv ((layL s st ge no).take k)) (fun _ _ i _ => match i with | .int _ k => n - k.toNat | _ => 0)
  case atStart => exact ⟨0, rfl, by simp, by omega, Below.refl _ _, OwnStrs.nil _ _⟩
  case round =>
    obtain ⟨k, rfl, rfl, hk, hB, hown⟩ := hrel
    have HB := Lib.hid hB
    have HOWN := Lib.hid hown
    clear hB hown
    by_cases hlt : k < n
    · have hup := countOf_up s.length
      rw [← HN.out] at hup
      have hlow := countOf_low s.length k (by rw [← HN.out]; exact hlt)
      obtain ⟨r, hr⟩ : ∃ r : List UInt8, r = s.drop (37 * k) := ⟨_, rfl⟩
      obtain ⟨m, hm⟩ : ∃ m : Nat, m = min r.length 37 := ⟨_, rfl⟩
      rw [← hr]
      have hrz : (⟨r.toArray⟩ : ByteArray).size = r.length := by simp [ByteArray.size]
      have hpr := piece_right s st ge no k (by rw [← HN.out]; exact hlt) HOK.out
      have hpe : pieceAt s st ge no k = ⟨st, (ge : Int), (no : Int), (k : Int), (n : Int), r.take m⟩ := by
        have : r.take m = r.take 37 := by
          rw [hm]
          rcases Nat.le_total r.length 37 with h | h
          · rw [Nat.min_eq_left h, List.take_of_length_le (Nat.le_refl _), List.take_of_length_le h]
          · rw [Nat.min_eq_right h]
        rw [this, hr, HN.out]; rfl
      rw [hpe] at hpr
      have hlt2 := layL_take s st ge no k (by rw [← HN.out]; exact hlt)
      rw [hpe] at hlt2
      have HRV := Lib.hid hr
      have HMV := Lib.hid hm
      have HPR := Lib.hid hpr
      have HT := Lib.hid hlt2
      have hrm : r.length ≤ 1000000000 := by rw [hr]; simp; omega
      have hml : m ≤ r.length := by omega
      have hm37 : m ≤ 37 := by omega
      clear hr hm hup hlow hpr hpe hlt2
      go_wp2_with fail
      have hmm : min (r.length : Int) 37 = (m : Int) := by have := HMV.out; omega
      rw [hmm, Int.toNat_natCast, take_ext]
      clear hmm
      refine (print_ok st ge no k n (r.take m) wr HPR.out hst).mono ?_
      rintro e w1 ⟨rfl, hb1⟩
      have HB := Lib.hid (HB.out.trans (hb1.mono HB.out.size))
      have HOWN := Lib.hid (HOWN.out.on hb1)
      have HB1 := HB.out.size
      clear hb1
      have HSL : ∀ W : World, (Instr.slice 9 (.string ⟨r.toArray⟩) (some (.int .i64 (m : Int))) none none).run Tryd.prog W = .ok (.string ⟨(r.drop m).toArray⟩) W := fun W => by
        rw [← drop_ext r m, ← hrz]
        have := run_slice_string_l (P := Tryd.prog) (t := 9) (s := ⟨r.toArray⟩) W Tryd.underlying9 .i64 (m : Int) (by omega) (by rw [hrz]; omega)
        rwa [Int.toNat_natCast] at this
      dsimp only
      repeat (first | (go_big_may; first | ((with_reducible refine wpList_buildCell rfl 41 9 _ rfl _ ?_ ?_ Tryd.underlying41 (by kernel_rfl) ?_); (· rfl); (· rfl)) | ((with_reducible refine wpList_append_str rfl _ _ rfl w.heap.size u8 ((layL s st ge no).take k) (Pc.print ⟨st, ge, no, k, n, r.take m⟩) ?_ HOWN.out ?_ ?_ HB1 ?_); (· rfl); (· rfl); (· simp; omega); intro v' w2 hown1 hg1; have HOWN1 := Lib.hid hown1; have HG1 := Lib.hid hg1; clear hown1 hg1)) | go_values | go_skip | go_guarded | go_step | go_upon)
      refine ⟨⟨k + 1, rfl, ?_, by omega, HB.out.trans HG1.out, ?_⟩, ?_⟩
      · refine congrArg (fun x : List UInt8 => Value.string ⟨x.toArray⟩) ?_
        have h1 := HRV.out
        have h2 := HMV.out
        rw [h1, List.drop_drop]
        have h3 : r.length = s.length - 37 * k := by rw [h1]; simp
        rcases Nat.le_total r.length 37 with h | h
        · rw [List.drop_eq_nil_of_le (by omega), List.drop_eq_nil_of_le (by omega)]
        · have h4 : 37 * k + m = 37 * (k + 1) := by omega
          rw [h4]
      · rw [HT.out]; exact HOWN1.out
      · show n - ((k : Int) + 1).toNat < n - (k : Int).toNat
        omega
    · obtain rfl : k = n := by omega
      have hw := HOWN.out
      rw [List.take_of_length_le (by rw [layL_length, ← HN.out]; exact Nat.le_refl _)] at hw
      have HW := Lib.hid hw
      clear hw
      go_wp2_with fail
      go_ret2
      exact ⟨_, rfl, HW.out, HB.out⟩
set_option maxRecDepth 20000 in
set_option maxHeartbeats 4000000 in
theorem lay_bad (s : List UInt8) (st : Nat) (gen no : Int) (w : World) (hs : s.length ≤ 1000000000) (hst : st < 18446744073709551616) (hok : layOk s gen no = false) :
    Calls Tryd.prog 19 #[.string ⟨s.toArray⟩, .int .u64 (st : Int), .int .i64 gen, .int .i64 no] w fun e w' => e = .returned (.tuple #[.slice none 0 0, .int .i64 1]) ∧ Below w.heap.size w w' := by
  have hsz0 : (⟨s.toArray⟩ : ByteArray).size = s.length := by simp [ByteArray.size]
  have hcp := countOf_pos s.length
  have hcu : countOf s.length ≤ 1000000000 := by unfold countOf; split <;> omega
  have hpr := piece_wrong s st gen no hok
  have hpe : pieceAt s st gen no 0 = ⟨st, gen, no, 0, (countOf s.length : Int), s.take 37⟩ := by simp [pieceAt]
  rw [hpe] at hpr
  clear hok hpe
  have hmm : min (s.length : Int) 37 = ((min s.length 37 : Nat) : Int) := by omega
  have htk : s.take (min s.length 37) = s.take 37 := by
    rcases Nat.le_total s.length 37 with h | h
    · rw [Nat.min_eq_left h, List.take_of_length_le (Nat.le_refl _), List.take_of_length_le h]
    · rw [Nat.min_eq_right h]
  have HMM := Lib.hid hmm
  have HTK := Lib.hid htk
  have HPR := Lib.hid hpr
  clear hmm htk hpr
  go_enter Tryd.func19, Tryd.ntmps19
  go_wp2_with fail
  refine (count_any _ w (by omega) (by omega)).mono ?_
  rintro e w' ⟨rfl, rfl⟩
  rw [Int.toNat_natCast]
  obtain ⟨n, hn⟩ : ∃ n, n = countOf s.length := ⟨_, rfl⟩
  rw [← hn] at hcp hcu HPR ⊢
  clear hn
  go_wp2_with fail
  go_loopw [0, 8, 19] (fun sv lv i wr => i = .int .i64 0 ∧ sv = .string ⟨s.toArray⟩ ∧ wr = w) (fun _ _ i _ => 0)
  case atStart => exact ⟨rfl, rfl, rfl⟩
  case round =>
    obtain ⟨rfl, rfl, rfl⟩ := hrel
    go_wp2_with fail
    rw [HMM.out, Int.toNat_natCast, take_ext, HTK.out]
    refine (print_bad st gen no 0 n (s.take 37) wr (by simp; omega) HPR.out).mono ?_
    rintro e w1 ⟨rfl, hb1⟩
    dsimp only
    repeat (first | go_values | go_skip | go_guarded | go_step | go_upon)
    go_ret2
    exact ⟨rfl, hb1⟩
end Go.Proofs.YtbdhicjebeoakaaDoor
