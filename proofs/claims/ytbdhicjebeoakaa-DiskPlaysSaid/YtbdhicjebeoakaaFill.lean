/- lockagelaw03.fill: a text brought to 64 bytes. -/
import Derived.Test.YtbdhicjebeoakaaDisk6
set_option linter.unusedVariables false
set_option linter.unusedSimpArgs false
namespace Go.Proofs.Ytbdhicjebeoakaa
open Go.RowKit

def fillL (s : List UInt8) : List UInt8 := (s ++ List.replicate 64 46).take 64
theorem fillL_length (s : List UInt8) : (fillL s).length = 64 := by simp [fillL]
theorem ba_eq {a b : ByteArray} (h : a.data.toList = b.data.toList) : a = b := by
  cases a; cases b; simp at h; simp [h]
theorem ba_size (a : ByteArray) : a.size = a.data.toList.length := by rw [Array.length_toList]; rfl
theorem ba_append (a b : ByteArray) : (a ++ b).data.toList = a.data.toList ++ b.data.toList := by
  rw [ByteArray.data_append, Array.toList_append]
theorem ba_take (a : ByteArray) (n : Nat) : (a.extract 0 n).data.toList = a.data.toList.take n := by
  rw [ByteArray.data_extract]; simp

theorem fill_any (s : ByteArray) (w : World) (hs : s.size ≤ 140737488351232) :
    Calls Try.prog 14 #[.string s] w fun e w' => e = .returned (.string ⟨(fillL s.data.toList).toArray⟩) ∧ w = w' := by
  go_enter Try.func14, Try.ntmps14
  go_wp2_with fail
  go_loop [0] (fun u => ∃ (t : ByteArray) (k : Nat), u = .string t ∧ t.data.toList = s.data.toList ++ List.replicate k 46 ∧ t.size ≤ 140737488351232 ∧ (k = 0 ∨ t.size ≤ 64)) (fun u => match u with | .string t => 64 - t.size | _ => 0)
  case atStart => exact ⟨s, 0, rfl, by simp, hs, .inl rfl⟩
  case round =>
    obtain ⟨t, k, rfl, ht, htl, hk⟩ := hrel
    have HT := Lib.hid ht
    have HK := Lib.hid hk
    clear ht hk
    by_cases hlt : t.size < 64
    · go_wp2
      go_round
      case rel =>
        refine ⟨_, k + 1, rfl, ?_, ?_, ?_⟩
        · rw [ba_append, HT.out]
          simp [List.replicate_succ']
        · rw [ba_size, ba_append, List.length_append, ← ba_size]; simp; omega
        · right
          rw [ba_size, ba_append, List.length_append, ← ba_size]; simp; omega
      case measure =>
        have : (t ++ (⟨#[46]⟩ : ByteArray)).size = t.size + 1 := by rw [ba_size, ba_append, List.length_append, ← ba_size]; rfl
        simp [this]; omega
    · go_wp2
      go_ret
      refine ⟨ret_str (ba_eq ?_), rfl⟩
      rw [ba_take, HT.out]
      have hl := HT.out
      have hsz := ba_size t
      rw [hl, List.length_append, List.length_replicate] at hsz
      rcases HK.out with rfl | hk
      · simp only [fillL, List.replicate_zero, List.append_nil]
        rw [List.take_append_of_le_length (by omega)]
      · have h64 : t.size = 64 := by omega
        simp only [fillL]
        rw [List.take_append, List.take_append]
        congr 1
        rw [List.take_replicate, List.take_replicate]
        congr 1
        omega
end Go.Proofs.Ytbdhicjebeoakaa
