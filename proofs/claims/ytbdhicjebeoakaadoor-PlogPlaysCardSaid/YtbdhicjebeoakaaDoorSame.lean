/- Slices of strings as they are read; the reference's SameTexts. -/
import Derived.Test.YtbdhicjebeoakaaDoorLay
import Derived.Deep.QuietTactic
import Derived.BigQuiet
set_option linter.unusedVariables false
set_option linter.unusedSimpArgs false
namespace Go.Proofs.YtbdhicjebeoakaaDoor
open Go.RowKit

/-- The slice v reads as the texts l. -/
def StrsAt (w : World) (v : Value) (l : List (List UInt8)) : Prop :=
  ∃ A cap, v = .slice A l.length cap ∧ l.length ≤ 9223372036854775807 ∧ ∀ i s, l[i]? = some s → ∃ g o, A = some ⟨g, o, none⟩ ∧ w.cell? ⟨g, o + i, none⟩ = some (.string ⟨s.toArray⟩)
theorem OwnStrs.at {base : Nat} {w : World} {v : Value} {l : List (List UInt8)} (h : OwnStrs base w v l) : StrsAt w v l := by
  obtain ⟨A, cap, rfl, hle, hr⟩ := own_form1 h
  refine ⟨A, cap, rfl, hle, fun i s hs => ?_⟩
  have hi : i < l.length := by
    rcases Nat.lt_or_ge i l.length with h | h
    · exact h
    · rw [List.getElem?_eq_none h] at hs; cases hs
  obtain ⟨g, cur, rfl, _, hg, hc⟩ := hr (by omega)
  refine ⟨g, 0, rfl, ?_⟩
  rw [block_cell hg, Nat.zero_add]
  exact hc i _ (by rw [strs_get, hs]; rfl)
theorem below_drewN {B : Nat} {a w : World} (h : Below B a w) (q : Nat) : Below B a (w.drewN q) := ⟨h.os, h.tape, h.output, h.size, h.block⟩
theorem sameB (x y : List UInt8) : ((⟨x.toArray⟩ : ByteArray).toList == (⟨y.toArray⟩ : ByteArray).toList) = decide (x = y) := by
  rw [Bool.eq_iff_iff, ByteArray.toList_eq, ByteArray.toList_eq]; simp
set_option maxRecDepth 20000 in
set_option maxHeartbeats 1000000 in
theorem same_any (va vb : Value) (a b : List (List UInt8)) (w : World) (ha : StrsAt w va a) (hb : StrsAt w vb b) :
    Calls Tryd.prog 21 #[va, vb] w fun e w' => e = .returned (.bool (decide (a = b))) ∧ Below w.heap.size w w' := by
  obtain ⟨A, ca, rfl, hla, hra⟩ := ha
  obtain ⟨B, cb, rfl, hlb, hrb⟩ := hb
  have HA := Lib.hid hra
  have HB := Lib.hid hrb
  clear hra hrb
  by_cases hl : a.length = b.length
  · obtain ⟨n, hn⟩ : ∃ n, n = a.length := ⟨_, rfl⟩
    have hnb : n = b.length := by omega
    have hnn : ((n : Int) != (n : Int)) = false := by simp
    rw [← hl, ← hn]
    have HN := Lib.hid hn
    have HNB := Lib.hid hnb
    have hln : n ≤ 9223372036854775807 := by omega
    clear hl hn hnb hla hlb
    obtain ⟨D, hD⟩ : ∃ D : Bool, D = decide (a = b) := ⟨_, rfl⟩
    rw [← hD]
    have HD := Lib.hid hD
    clear hD
    go_enter Tryd.func21, Tryd.ntmps21
    go_wp2_with fail
    go_loopw [5] (fun i wr => ∃ k : Nat, i = .int .i64 (k : Int) ∧ k ≤ n ∧ Below w.heap.size w wr ∧ Hid (a.take k = b.take k)) (fun i _ => match i with | .int _ k => n - k.toNat | _ => 0)
    case atStart => exact ⟨0, rfl, by omega, Below.refl _ _, Lib.hid rfl⟩
    case round =>
      obtain ⟨k, rfl, hk, hBl, ht⟩ := hrel
      have HBl := Lib.hid hBl
      clear hBl
      by_cases hlt : k < n
      · have hka : k < a.length := by have := HN.out; omega
        have hkb : k < b.length := by have := HNB.out; omega
        have e1 : a[k]? = some a[k] := List.getElem?_eq_getElem hka
        have e2 : b[k]? = some b[k] := List.getElem?_eq_getElem hkb
        have t1 : a.take (k + 1) = a.take k ++ [a[k]] := List.take_succ_eq_append_getElem hka
        have t2 : b.take (k + 1) = b.take k ++ [b[k]] := List.take_succ_eq_append_getElem hkb
        have hdf : a[k] ≠ b[k] → D = false := by
          intro hne
          rw [HD.out]
          refine decide_eq_false (fun e => hne ?_)
          have h3 := congrArg (fun l : List (List UInt8) => l[k]?) e
          simp only [e1, e2] at h3
          exact Option.some.inj h3
        generalize a[k] = x at e1 t1 hdf
        generalize b[k] = y at e2 t2 hdf
        obtain ⟨g, o, rfl, hc⟩ := HA.out k x e1
        obtain ⟨g', o', rfl, hc'⟩ := HB.out k y e2
        have hg : g < w.heap.size := World.block_lt_of_cell? _ _ hc
        have hg' : g' < w.heap.size := World.block_lt_of_cell? _ _ hc'
        have hc2 : wr.cell? ⟨g, o + k, none⟩ = some (.string ⟨x.toArray⟩) := (HBl.out.cell (p := ⟨g, o + k, none⟩) hg).trans hc
        have hc2' : wr.cell? ⟨g', o' + k, none⟩ = some (.string ⟨y.toArray⟩) := (HBl.out.cell (p := ⟨g', o' + k, none⟩) hg').trans hc'
        have hxy := sameB x y
        clear hc hc' e1 e2
        have T1 := Lib.hid t1
        have T2 := Lib.hid t2
        clear t1 t2
        by_cases hne : x = y
        · rw [decide_eq_true hne] at hxy
          have hx2 : (x == y) = true := by rw [beq_iff_eq]; exact hne
          have HE := Lib.hid hne
          clear hne hdf
          go_wp2_with fail
          go_quiet (fail)
          go_wp2_with fail
          refine ⟨⟨k + 1, rfl, by omega, below_drewN HBl.out _, ?_⟩, ?_⟩
          · have h1 := ht.out
            refine Lib.hid ?_
            rw [T1.out, T2.out, h1, HE.out]
          · show n - ((k : Int) + 1).toNat < n - (k : Int).toNat
            omega
        · rw [decide_eq_false hne] at hxy
          have hx2 : (x == y) = false := by rw [beq_eq_false_iff_ne]; exact hne
          have hDD := hdf hne
          subst hDD
          clear hne hdf
          go_wp2_with fail
          go_quiet (fail)
          go_wp2_with fail
          go_ret
          exact ⟨rfl, below_drewN HBl.out _⟩
      · have hkk : k = n := by omega
        have hDD : D = true := by
          rw [HD.out]
          refine decide_eq_true ?_
          have h1 := ht.out
          rwa [List.take_of_length_le (by have := HN.out; omega), List.take_of_length_le (by have := HNB.out; omega)] at h1
        subst hDD
        clear hkk
        go_wp2_with fail
        go_ret
        exact ⟨rfl, HBl.out⟩
  · have hlb' : ((a.length : Int) != (b.length : Int)) = true := by rw [bne_iff_ne]; omega
    have hne : decide (a = b) = false := decide_eq_false (fun e => hl (by rw [e]))
    rw [hne]
    clear hne hl
    go_enter Tryd.func21, Tryd.ntmps21
    go_wp2
    go_ret
    exact ⟨rfl, Below.refl _ _⟩
end Go.Proofs.YtbdhicjebeoakaaDoor
