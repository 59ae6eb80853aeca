/- The walk of lockagelaw05.PlogGrows. -/
import Derived.Test.YtbdhicjebeoakaaDoorAw5
set_option linter.unusedVariables false
set_option linter.unusedSimpArgs false
namespace Go.Proofs.YtbdhicjebeoakaaDoor
open Go.RowKit

/-- Texts of one's own, beside the log. -/
def TK (v : Value) (l : List (List UInt8)) : World → (Nat → Prop) → Prop := fun w E => OwnStrs 0 w v l ∧ ∀ k, v.ownBlock = some k → E k
theorem framedK (v : Value) (l : List (List UInt8)) : Framed (TK v l) := fun w w' E G h hE hf hd => by
  refine ⟨⟨h.1.1, ?_⟩, h.2⟩
  rcases h.1.2 with hn | ⟨g, cap, cur, he, hb, hg, rest⟩
  · exact .inl hn
  · have hF : E g := h.2 g (by rw [he]; rfl)
    exact .inr ⟨g, cap, cur, he, hb, (hf.block g (hE g hF) (hd g hF)).trans hg, rest⟩
section
variable {T T' : World → (Nat → Prop) → Prop} {W w w' : World} {lb db : Nat} {L L' : LSt} {d d' : DSt} {k : Nat}
theorem Duo.rest_turn (h : Duo T W w lb db L d) (hc : ∀ E : Nat → Prop, (∀ k, E k → k < w.heap.size) → T w E → Fr E w w' ∧ ∃ E' : Nat → Prop, T' w' E' ∧ ∀ k, E' k → E k ∨ (w.heap.size ≤ k ∧ k < w'.heap.size)) : Duo T' W w' lb db L d := by
  obtain ⟨F, G, E, h1, h2, h3, h4, h5, h6, h7, h8, h9⟩ := h.all
  obtain ⟨hf, E', ht', hE⟩ := hc E (fun k hk => (h3 k hk).2) h9
  have hs := h.below.size
  refine ⟨h.below.trans (hf.below hs (fun k hk => (h3 k hk).1)), F, G, E', h1, h2, fun k hk => ?_, h4, fun k hk hk' => ?_, fun k hk hk' => ?_, h7.frame hf (fun k h h' => h5 k h' h), h8.frame hf (fun k h h' => h6 k h' h), ht'⟩
  · rcases hE k hk with h | h
    · exact ⟨(h3 k h).1, Nat.lt_of_lt_of_le (h3 k h).2 hf.size⟩
    · exact ⟨by omega, h.2⟩
  · rcases hE k hk with h | h
    · exact h5 k h hk'
    · have := h7.bd k hk'; omega
  · rcases hE k hk with h | h
    · exact h6 k h hk'
    · have := h8.bd k hk'; omega
theorem Duo.stored {v v' : Value} {l l' : List (List UInt8)} (h : Duo (TK v l) W w lb db L d) (hf : Fr (fun k => v.ownBlock = some k) w w') (ho : OwnStrs 0 w' v' l') (hk : ∀ k, v'.ownBlock = some k → v.ownBlock = some k ∨ w.heap.size ≤ k) : Duo (TK v' l') W w' lb db L d :=
  h.rest_turn fun E hE ht => ⟨hf.mono (fun k hk => ht.2 k hk), fun k => v'.ownBlock = some k, ⟨ho, fun k h => h⟩, fun k hk' => by
    rcases hk k hk' with h1 | h1
    · exact .inl (ht.2 k h1)
    · exact .inr ⟨h1, (ho.lt k hk').2⟩⟩
end
def gL (st at_ : Nat) (l : List (List UInt8)) : LSt := ⟨0, 200, st, 1, at_, [98, 97, 115, 101], l⟩
def gL0 (st : Nat) : LSt := ⟨0, 200, st, 0, 0, [], []⟩
theorem gspec0 (st : Nat) : (gL0 st).spec [] [98, 97, 115, 101] = (0, gL st 1 []) := rfl
theorem gspec (st a : Nat) (l : List (List UInt8)) (s : List UInt8) (h : a + countOf s.length ≤ 200) : (gL st a l).spec s [] = (0, gL st (a + countOf s.length) (l ++ [s])) := by
  have h1 : ¬ 2147483646 ≤ (gL st a l).gen := show ¬ 2147483646 ≤ 1 by decide
  have h2 : 0 < (gL st a l).gen ∧ (gL st a l).at_ + countOf s.length ≤ (gL st a l).half := ⟨show 0 < 1 by decide, h⟩
  unfold LSt.spec
  rw [if_neg h1, if_pos h2]
  rfl
section
variable {T : World → (Nat → Prop) → Prop} {W w : World} {lb db : Nat} {d : DSt} {st k a : Nat} {l : List (List UInt8)}
theorem gopen0 (h : Own W w db (DSt.new 400)) : Calls Tryd.prog 30 #[.pointer (some ⟨db, 0, none⟩), .int .i64 0, .int .i64 200, .int .u32 1] w fun e w' =>
    ∃ lb, e = .returned (.tuple #[.pointer (some ⟨lb, 0, none⟩), .int .i64 0]) ∧ Duo TNone W w' lb db (gL0 4294967296) (DSt.new 400) :=
  duo_first h 400 0 200 1 rfl (by decide) (by decide) (by decide) (by decide) (by decide)
theorem gapp0 (h : Duo TNone W w lb db (gL0 4294967296) (DSt.new 400)) : Calls Tryd.prog 32 #[.pointer (some ⟨lb, 0, none⟩), .string ⟨#[]⟩, .string ⟨#[98, 97, 115, 101]⟩] w fun e w' =>
    ∃ st d', e = .returned (.int .i64 0) ∧ Duo TNone W w' lb db (gL st 1 []) d' ∧ Calm (gL st 1 []) d' 1 ∧ st ≤ 4294967297 :=
  (duo_append h framed_none (Calm.fresh 400 0 200 4294967296 (by decide) (by decide) (by decide) (by decide)) (by decide) (by decide) [] [98, 97, 115, 101] (by decide) (by decide)).mono fun e w' ⟨L', d', h1, h2, h3, h4, h5, h6, h7⟩ => by
    have e0 := gspec0 4294967296
    have h4' : L' = gL L'.stamp 1 [] := by rw [h4]; exact congrArg (fun x : Int × LSt => ({ x.2 with stamp := L'.stamp } : LSt)) e0
    refine ⟨L'.stamp, d', h1, ?_, ?_, h6⟩
    · rw [← h4']; exact h2
    · rw [← h4']; exact h3
theorem gapp (h : Duo T W w lb db (gL st a l) d) (ht : Framed T) (hc : Calm (gL st a l) d k) (hk : k ≤ 100) (hs : st ≤ 4294967297 + k) (s : List UInt8) (hsl : s.length ≤ 100) (hroom : a + countOf s.length ≤ 200) :
    Calls Tryd.prog 32 #[.pointer (some ⟨lb, 0, none⟩), .string ⟨s.toArray⟩, .string ⟨#[]⟩] w fun e w' =>
    ∃ st d', e = .returned (.int .i64 0) ∧ Duo T W w' lb db (gL st (a + countOf s.length) (l ++ [s])) d' ∧ Calm (gL st (a + countOf s.length) (l ++ [s])) d' (k + 1) ∧ st ≤ 4294967297 + (k + 1 : Nat) :=
  (duo_append h ht hc (by omega) (by show st + 1 < _; omega) s [] (by omega) (by decide)).mono fun e w' ⟨L', d', h1, h2, h3, h4, h5, h6, h7⟩ => by
    have e0 := gspec st a l s hroom
    rw [e0] at h1 h4
    have h4' : L' = gL L'.stamp (a + countOf s.length) (l ++ [s]) := h4
    refine ⟨L'.stamp, d', h1, ?_, ?_, by have : L'.stamp ≤ st + 1 := h6; omega⟩
    · rw [← h4']; exact h2
    · rw [← h4']; exact h3
theorem groom (h : Duo T W w lb db (gL st a l) d) (ha : a ≤ 200) : Calls Tryd.prog 36 #[.pointer (some ⟨lb, 0, none⟩)] w fun e w' => e = .returned (.int .i64 (200 - (a : Int))) ∧ Below w.heap.size w w' := by
  obtain ⟨F, hl⟩ := h.log
  refine (room_any hl ha (show 200 ≤ 1000000 by decide)).mono ?_
  rintro e w' ⟨rfl, hb⟩
  refine ⟨ret_int ?_, hb⟩
  show ((200 - a : Nat) : Int) = _
  omega
theorem gopen2 (h : Duo T W w lb db (gL st a l) d) (ht : Framed T) (hc : Calm (gL st a l) d k) : Calls Tryd.prog 30 #[.pointer (some ⟨db, 0, none⟩), .int .i64 0, .int .i64 200, .int .u32 2] w fun e w' =>
    ∃ mb, e = .returned (.tuple #[.pointer (some ⟨mb, 0, none⟩), .int .i64 0]) ∧ Duo T W w' lb db (gL st a l) d ∧ Duo T W w' mb db (gL 8589934592 a l) d :=
  duo_open h ht hc 2 (by decide) (base := 0) (half := 200) rfl rfl
theorem ggen (b : Nat) (h : Duo T W w b db (gL st a l) d) : Calls Tryd.prog 35 #[.pointer (some ⟨b, 0, none⟩)] w fun e w' => e = .returned (.int .i64 1) ∧ w' = w := duo_gen h
theorem gbase (b : Nat) (h : Duo T W w b db (gL st a l) d) : Calls Tryd.prog 33 #[.pointer (some ⟨b, 0, none⟩)] w fun e w' => e = .returned (.string ⟨#[98, 97, 115, 101]⟩) ∧ w' = w := duo_base h
theorem grecords (b : Nat) (h : Duo T W w b db (gL st a l) d) (hl : l.length ≤ 1000) : Calls Tryd.prog 34 #[.pointer (some ⟨b, 0, none⟩)] w fun e w' => ∃ v', e = .returned v' ∧ StrsAt w' v' l ∧ Below w.heap.size w w' := by
  obtain ⟨F, hL⟩ := h.log
  refine (records_any hL (show l.length ≤ 1000000000 by omega)).mono ?_
  rintro e w' ⟨v, rfl, ho, hb⟩
  exact ⟨v, rfl, ho.at, hb⟩
end
theorem count_100 (n : Nat) (h : n ≤ 100) : countOf n ≤ 3 := by unfold countOf; split <;> omega
set_option maxRecDepth 20000 in
set_option maxHeartbeats 4000000 in
theorem grows_walk (vl : Value) (l : List (List UInt8)) (w : World) (hl : StrsAt w vl l) (hls : ∀ t ∈ l, t.length ≤ 9223372036854775807) :
    Calls Tryd.prog 8 #[vl] w fun e w' => e = .returned (.bool true) ∧ Below w.heap.size w w' := by
  have HAW := fun W => Lib.hid (awake5_ok W)
  obtain ⟨A, cap, rfl, hln, hrow⟩ := hl
  have HROW := Lib.hid hrow
  have HLS := Lib.hid hls
  clear hrow hls
  obtain ⟨n, hn⟩ : ∃ n, n = l.length := ⟨_, rfl⟩
  rw [← hn] at hln ⊢
  have HN := Lib.hid hn
  clear hn
  go_enter Tryd.func8, Tryd.ntmps8
  go_wp2_with fail
  refine (HAW _).out.mono ?_
  rintro e w1 ⟨rfl, hb1⟩
  have HB1 := Lib.hid hb1
  clear hb1
  by_cases h60 : (60 : Int) < (n : Int)
  case pos =>
    go_wp2_with fail
    refine (HAW _).out.mono ?_
    rintro e w2 ⟨rfl, hb2⟩
    have HB2 := Lib.hid (HB1.out.trans (hb2.mono HB1.out.size))
    clear hb2
    go_wp2_with fail
    go_ret
    exact ⟨rfl, HB2.out⟩
  have hn60 : n ≤ 60 := by omega
  go_wp2_with fail
  refine (own_new 400 _ (by decide) (by decide)).mono ?_
  rintro e w2 ⟨db, rfl, h1⟩
  have H1 := Lib.hid h1
  clear h1 h60
  go_wp2_with fail
  refine (gopen0 H1.out).mono ?_
  rintro e w3 ⟨lb, rfl, h2⟩
  have H2 := Lib.hid h2
  clear h2 H1
  go_wp2_with fail
  refine (gapp0 H2.out).mono ?_
  rintro e w4 ⟨st0, d0, rfl, h3, hc3, hs3⟩
  have H3 : Hid (Duo (TK (.slice none 0 0) []) w1 w4 lb db (gL st0 1 []) d0) := Lib.hid (h3.with_ (Below.refl _ _) (E := fun _ => False) (fun k hk => hk.elim) ⟨OwnStrs.nil _ _, fun k hk => by simp [Value.ownBlock] at hk⟩)
  have C3 := Lib.hid hc3
  clear h3 hc3 H2
  go_wp2_with fail
  go_loopw [7, 39] (fun v i wr => ∃ (k a st : Nat) (d : DSt) (B : Option Addr) (c : Nat), i = .int .i64 (k : Int) ∧ v = .slice B k c ∧ k ≤ n ∧ a ≤ 1 + 3 * k ∧ st ≤ 4294967297 + (k + 1 : Nat) ∧ Hid (Duo (TK v (l.take k)) w1 wr lb db (gL st a (l.take k)) d) ∧ Hid (Calm (gL st a (l.take k)) d (k + 1))) (fun _ i _ => match i with | .int _ k => n - k.toNat | _ => 0)
  case atStart => exact ⟨0, 1, st0, d0, none, 0, rfl, rfl, Nat.zero_le _, by omega, by omega, H3, C3⟩
  case round =>
    obtain ⟨k, a, st, d, B, c, rfl, rfl, hk, ha, hst, HD, HC⟩ := hrel
    by_cases hlt : k < n
    · have hkl : k < l.length := by have := HN.out; omega
      have e1 : l[k]? = some l[k] := List.getElem?_eq_getElem hkl
      have t1 : l.take (k + 1) = l.take k ++ [l[k]] := List.take_succ_eq_append_getElem hkl
      have hsl := HLS.out l[k] (List.getElem_mem hkl)
      generalize l[k] = s at e1 t1 hsl
      obtain ⟨g, o, rfl, hc⟩ := HROW.out k s e1
      have hc2 : wr.cell? ⟨g, o + k, none⟩ = some (.string ⟨s.toArray⟩) := ((HB1.out.trans (HD.out.below.mono HB1.out.size)).cell (p := ⟨g, o + k, none⟩) (World.block_lt_of_cell? _ _ hc)).trans hc
      have hsz : (⟨s.toArray⟩ : ByteArray).size = s.length := by simp [ByteArray.size]
      have T1 := Lib.hid t1
      clear hc e1 t1
      by_cases h100 : (100 : Int) < (s.length : Int)
      case pos =>
        go_wp2_with fail
        go_ret
        exact ⟨rfl, HB1.out.trans (HD.out.below.mono HB1.out.size)⟩
      have h100' : s.length ≤ 100 := by omega
      have hc3 := count_100 _ h100'
      have ha2 : a ≤ 200 := by omega
      go_wp2_with fail
      refine (groom HD.out ha2).mono ?_
      rintro e w5 ⟨rfl, hb5⟩
      have HD := Lib.hid (HD.out.later (framedK _ _) hb5)
      clear hb5 h100
      go_wp2_with fail
      refine (gapp HD.out (framedK _ _) HC.out (by omega) hst s h100' (by omega)).mono ?_
      rintro e w6 ⟨st', d', rfl, h6, hc6, hs6⟩
      have HD6 := Lib.hid h6
      have HC6 := Lib.hid hc6
      have HS6 := Lib.hid hs6
      clear h6 hc6 hs6 HD HC hc2
      go_wp2_with fail
      refine (groom HD6.out (by omega)).mono ?_
      rintro e w7 ⟨rfl, hb7⟩
      have HD6 := Lib.hid (HD6.out.later (framedK _ _) hb7)
      clear hb7
      go_wp2_with fail
      refine (sectors_any _ _ (by rw [hsz]; omega)).mono ?_
      rintro e w' ⟨rfl, rfl⟩
      rw [hsz]
      generalize countOf s.length = cn at *
      have hcn : wrap64 (200 - (a : Int) - (cn : Int)) = 200 - ((a : Int) + (cn : Int)) := by unfold wrap64; omega
      have hne : ((200 - ((a : Int) + (cn : Int))) != (200 - ((a : Int) + (cn : Int)))) = false := by simp
      have HOWN : Hid (OwnStrs 0 w' (.slice B k c) (l.take k)) := Lib.hid (by obtain ⟨E, _, hT⟩ := HD6.out.rest; exact hT.1)
      have hlk : (l.take k).length ≤ 1000000000 := by rw [List.length_take]; omega
      dsimp only
      repeat (first | (go_big_may; first | ((with_reducible refine wpList_buildCell rfl 41 9 _ rfl _ ?_ ?_ Tryd.underlying41 (by kernel_rfl) ?_); (· rfl); (· rfl)) | ((with_reducible refine wpList_append_rec rfl _ _ rfl (.slice B k c) (l.take k) s ?_ HOWN.out ?_ hlk ?_); (· rfl); (· rfl); intro A2 n2 c2 w8 hown1 hfr1 hat1; have HOWN8 := Lib.hid hown1; have HFR8 := Lib.hid hfr1; have HAT8 := Lib.hid hat1; clear hown1 hfr1 hat1)) | go_values | go_skip | go_guarded | go_step | go_upon)
      obtain ⟨A3, c3, e3, -, -⟩ := own_form1 HOWN8.out
      have hn2 : n2 = k + 1 := by
        injection e3 with _ h2 _
        rw [h2, List.length_append, List.length_take]
        simp only [List.length_cons, List.length_nil]
        omega
      refine ⟨⟨k + 1, a + cn, st', d', A2, c2, rfl, by rw [hn2], by omega, by omega, HS6.out, Lib.hid ?_, Lib.hid ?_⟩, ?_⟩
      · rw [T1.out]
        exact HD6.out.stored HFR8.out HOWN8.out HAT8.out
      · rw [T1.out]
        exact HC6.out
      · show n - ((k : Int) + 1).toNat < n - (k : Int).toNat
        omega
    · obtain rfl : k = n := by omega
      have htk : l.take k = l := List.take_of_length_le (by have := HN.out; omega)
      rw [htk] at HD HC
      clear hlt
      go_wp2_with fail
      refine (gopen2 HD.out (framedK _ _) HC.out).mono ?_
      rintro e w5 ⟨mb, rfl, h5, h6⟩
      have H5 := Lib.hid h5
      have H6 := Lib.hid h6
      clear h5 h6 HD
      go_wp2_with fail
      refine (ggen lb H5.out).mono ?_
      rintro e w' ⟨rfl, rfl⟩
      go_wp2_with fail
      refine (gbase lb H5.out).mono ?_
      rintro e w' ⟨rfl, rfl⟩
      go_wp2_with fail
      refine (grecords mb H6.out (by have := HN.out; omega)).mono ?_
      rintro e w6 ⟨v6, rfl, hat, hb6⟩
      have H6 := Lib.hid (H6.out.later (framedK _ _) hb6)
      have HAT := Lib.hid hat
      have HK : Hid (StrsAt w6 (.slice B k c) l) := Lib.hid (by obtain ⟨E, _, hT⟩ := H6.out.rest; exact hT.1.at)
      clear hb6 H5 hat
      go_wp2_with fail
      refine (same_any _ _ _ _ _ HAT.out HK.out).mono ?_
      rintro e w7 ⟨rfl, hb7⟩
      have H6 := Lib.hid (H6.out.later (framedK _ _) hb7)
      rw [decide_eq_true (rfl : l = l)]
      clear hb7 HAT HK
      go_wp2_with fail
      refine (gbase mb H6.out).mono ?_
      rintro e w' ⟨rfl, rfl⟩
      go_wp2_with fail
      go_ret
      exact ⟨rfl, HB1.out.trans (H6.out.below.mono HB1.out.size)⟩
end Go.Proofs.YtbdhicjebeoakaaDoor
