/- disk.Read: what is read is what was written last; nothing that was there turns. -/
import Derived.Test.YtbdhicjebeoakaaDoorDisk2
set_option linter.unusedVariables false
set_option linter.unusedSimpArgs false
namespace Go.Proofs.YtbdhicjebeoakaaDoor
open Go.RowKit

theorem size_sector : (Tryd.prog.info? 105).map (·.size) = some 64 := by kernel_rfl
theorem size_write : (Tryd.prog.info? 107).map (·.size) = some 65 := by kernel_rfl
def zerosS : Array Value := (bv zeros64).toArray
def zerosW : Array Value := (Value.int .i64 0 :: bv zeros64).toArray
theorem zero_sector : (Tryd.prog.info? 105).map (·.zero) = some (some (.agg zerosS)) := by kernel_rfl
theorem zero_write : (Tryd.prog.info? 107).map (·.zero) = some (some (.agg zerosW)) := by kernel_rfl
theorem zerosS_size : zerosS.size = 64 := by simp [zerosS, bv_length, zeros64]
theorem zerosW_size : zerosW.size = 65 := by simp [zerosW, bv_length, zeros64]
theorem wrV_one (x : Nat × List UInt8) : ∀ v ∈ (wrV x).toArray.toList, v.oneCell' = true := by
  intro v hv
  simp only [wrV, List.mem_cons] at hv
  rcases hv with rfl | hv
  · rfl
  · exact bv_one _ v hv

/-- What a slice of the call's own is, whatever it is. -/
theorem own_form {w : World} {base n size : Nat} {e : TypeId} {v : Value} {xs : List Value} (h : w.ownsRow base e size v n xs) :
    ∃ A cap, v = .slice A n cap ∧ n ≤ 9223372036854775807 ∧ (0 < n → ∃ g cur, A = some ⟨g, 0, none⟩ ∧ v.ownBlock = some g ∧ w.heap[g]? = some (.cells cur e (0, 0)) ∧ ∀ (j : Nat) (u : Value), xs[j]? = some u → cur[j]? = some u) := by
  rcases h.2 with ⟨rfl, rfl⟩ | ⟨g, cap, cur, rfl, _, hg, hnc, hcm, _, htake⟩
  · exact ⟨none, 0, rfl, by omega, fun h => absurd h (by omega)⟩
  · refine ⟨_, cap, rfl, by simp only [maxLen] at hcm; omega, fun _ => ⟨g, cur, rfl, rfl, hg, fun j u hu => ?_⟩⟩
    rw [← htake, List.getElem?_take] at hu
    split at hu
    · simpa using hu
    · cases hu
section
variable {ops : Array Oper} {rest : List Oper} {o : Oper} {a : Act} {w : World} {Q : Exit → Act → World → Prop}
/-- A write read out of the cache. -/
theorem wpList_load_write (hgd : o.guard = none) (x : Operand) (ho : o.op = .load 107 x) (g k : Nat) (hx : a.eval x = .pointer (some ⟨g, k * 65, none⟩)) (cur : Array Value) (hg : w.heap[g]? = some (.cells cur 107 (0, 0)))
    (n : Nat) (l : List (Nat × List UInt8)) (hf : Fits n l) (hcur : ∀ (j : Nat) (u : Value), (cacheV l)[j]? = some u → cur[j]? = some u) (hk : k < l.length) (p : Nat × List UInt8) (hp : l[k] = p)
    (h : wpList Tryd.prog ops Q rest (a.put o.dst (.agg (wrV p).toArray)) w) : wpList Tryd.prog ops Q (o :: rest) a w := by
  subst hp
  exact wpList_load_at hgd 107 x ho g (k * 65) hx 107 cur (0, 0) _ (wrV l[k]) hg Tryd.underlying107 rfl (by rw [wrV_length hf _ (List.getElem_mem hk)]; exact size_write)
    (fun j v hv => hcur _ _ (rowV_get l (wrV_length hf) k hk j v hv)) h
/-- A sector read out of the kept ones. -/
theorem wpList_load_sector (hgd : o.guard = none) (x : Operand) (ho : o.op = .load 105 x) (g k : Nat) (hx : a.eval x = .pointer (some ⟨g, k * 64, none⟩)) (l : List (List UInt8)) (hg : w.heap[g]? = some (.cells (keptV l).toArray 105 (0, 0)))
    (hf : All64 l) (hk : k < l.length)
    (h : wpList Tryd.prog ops Q rest (a.put o.dst (.agg (bv l[k]).toArray)) w) : wpList Tryd.prog ops Q (o :: rest) a w :=
  wpList_load_at hgd 105 x ho g (k * 64) hx 105 _ (0, 0) _ (bv l[k]) hg Tryd.underlying105 rfl (by rw [bv_length64 hf _ (List.getElem_mem hk)]; exact size_sector)
    (fun j v hv => by simpa [keptV] using rowV_get l (bv_length64 hf) k hk j v hv) h
/-- The sector of a write that lies in a block of its own. -/
theorem wpList_load_part (hgd : o.guard = none) (x : Operand) (ho : o.op = .load 105 x) (g : Nat) (hx : a.eval x = .pointer (some ⟨g, 1, none⟩)) (p : Nat × List UInt8) (hp : p.2.length = 64) (hg : w.heap[g]? = some (.cells (wrV p).toArray 107 (0, 0)))
    (h : wpList Tryd.prog ops Q rest (a.put o.dst (.agg (bv p.2).toArray)) w) : wpList Tryd.prog ops Q (o :: rest) a w :=
  wpList_load_at hgd 105 x ho g 1 hx 107 _ (0, 0) _ (bv p.2) hg Tryd.underlying105 rfl (by rw [bv_length, hp]; exact size_sector)
    (fun j v hv => by simp only [wrV]; rw [List.getElem?_toArray, Nat.add_comm 1 j, List.getElem?_cons_succ]; exact hv) h
theorem wpList_new_write (hgd : o.guard = none) (ho : o.op = .alloc 107)
    (h : wpList Tryd.prog ops Q rest (a.put o.dst (.pointer (some ⟨w.heap.size, 0, none⟩))) (w.alloc (.cells zerosW 107))) : wpList Tryd.prog ops Q (o :: rest) a w :=
  wpList_alloc_zero hgd 107 ho zerosW zero_write h
theorem wpList_new_sector (hgd : o.guard = none) (ho : o.op = .alloc 105)
    (h : wpList Tryd.prog ops Q rest (a.put o.dst (.pointer (some ⟨w.heap.size, 0, none⟩))) (w.alloc (.cells zerosS 105))) : wpList Tryd.prog ops Q (o :: rest) a w :=
  wpList_alloc_zero hgd 105 ho zerosS zero_sector h
theorem wpList_put_write (hgd : o.guard = none) (x y : Operand) (ho : o.op = .store 107 x y) (p : Nat × List UInt8) (hp : p.2.length = 64) (hx : a.eval x = .pointer (some ⟨w.heap.size, 0, none⟩)) (hy : a.eval y = .agg (wrV p).toArray)
    (h : wpList Tryd.prog ops Q rest (a.put o.dst undef) (w.alloc (.cells (wrV p).toArray 107))) : wpList Tryd.prog ops Q (o :: rest) a (w.alloc (.cells zerosW 107)) :=
  wpList_store_new hgd 107 x y ho (wrV p).toArray hx hy (by rw [List.size_toArray, show (wrV p).length = 65 by simp [wrV, bv_length, hp]]; exact size_write) (by rw [zerosW_size]; simp [wrV, bv_length, hp]) (wrV_one p) h
theorem wpList_put_sector (hgd : o.guard = none) (x y : Operand) (ho : o.op = .store 105 x y) (s : List UInt8) (hs : s.length = 64) (hx : a.eval x = .pointer (some ⟨w.heap.size, 0, none⟩)) (hy : a.eval y = .agg (bv s).toArray)
    (h : wpList Tryd.prog ops Q rest (a.put o.dst undef) (w.alloc (.cells (bv s).toArray 105))) : wpList Tryd.prog ops Q (o :: rest) a (w.alloc (.cells zerosS 105)) :=
  wpList_store_new hgd 105 x y ho (bv s).toArray hx hy (by rw [List.size_toArray, bv_length, hs]; exact size_sector) (by rw [zerosS_size]; simp [bv_length, hs]) (fun v hv => bv_one s v (by simpa using hv)) h
/-- A sector stored over a block of one. -/
theorem wpList_over_sector (hgd : o.guard = none) (x y : Operand) (ho : o.op = .store 105 x y) (g : Nat) (s t : List UInt8) (hs : s.length = 64) (ht : t.length = 64) (hx : a.eval x = .pointer (some ⟨g, 0, none⟩)) (hy : a.eval y = .agg (bv s).toArray)
    (hg : w.heap[g]? = some (.cells (bv t).toArray 105 (0, 0)))
    (h : wpList Tryd.prog ops Q rest (a.put o.dst undef) (w.setRow g (bv s).toArray)) : wpList Tryd.prog ops Q (o :: rest) a w := by
  refine wpList_store_at hgd 105 x y ho g 0 (bv s).toArray hx hy 105 (bv t).toArray hg (by rw [List.size_toArray, bv_length, hs]; exact size_sector) (by simp [bv_length, hs, ht]) (fun v hv => bv_one s v (by simpa using hv)) ?_
  have e : ((bv t).toArray.toList.take 0 ++ (bv s).toArray.toList ++ (bv t).toArray.toList.drop (0 + (bv s).toArray.size)).toArray = (bv s).toArray := by
    rw [List.drop_of_length_le (by simp [bv_length, hs, ht])]; simp
  rw [e]
  exact h
end

theorem read_bad {w : World} {F : Nat → Prop} {b : Nat} {d : DSt} (h : IsDisk w F b d) (at_ : Int) (hc : d.check at_ ≠ 0) :
    Calls Tryd.prog 73 #[.pointer (some ⟨b, 0, none⟩), .int .i64 at_] w fun e w' => e = .returned (.tuple #[.string ⟨#[]⟩, .int .i64 (d.check at_)]) ∧ w = w' := by
  have hL := Lib.hid (check_any h at_)
  have hne : (d.check at_ != 0) = true := by simpa using hc
  clear hc h
  go_enter Tryd.func73, Tryd.ntmps73
  go_wp2_with (go_at_call 83; refine hL.out.mono ?_; rintro e w' ⟨rfl, rfl⟩)
  go_ret2
  exact ⟨rfl, rfl⟩
theorem read_nil (w : World) (at_ : Int) :
    Calls Tryd.prog 73 #[.pointer none, .int .i64 at_] w fun e w' => e = .returned (.tuple #[.string ⟨#[]⟩, .int .i64 8]) ∧ w = w' := by
  go_enter Tryd.func73, Tryd.ntmps73
  go_wp2_with (go_at_call 83; refine (check_nil _ _).mono ?_; rintro e w' ⟨rfl, rfl⟩)
  go_ret2
  exact ⟨rfl, rfl⟩

set_option maxHeartbeats 4000000 in
theorem read_good {w : World} {F : Nat → Prop} {b : Nat} {d : DSt} (h : IsDisk w F b d) (i : Nat) (hi : i < d.kept.length) (hoff : d.off = false) :
    Calls Tryd.prog 73 #[.pointer (some ⟨b, 0, none⟩), .int .i64 i] w fun e w' =>
      e = .returned (.tuple #[.string ⟨(lastOf i d.cache (d.kept.getD i [])).toArray⟩, .int .i64 0]) ∧ Below w.heap.size w w' := by
  have hchk : d.check (i : Int) = 0 := by
    unfold DSt.check
    rw [if_neg (by simp [hoff]), if_neg (by omega)]
  have hL := Lib.hid (check_any h (i : Int))
  rw [hchk] at hL
  clear hchk hoff
  obtain ⟨kb, cv, hd⟩ := h
  obtain ⟨c0, c1, -⟩ := hd.cells
  obtain ⟨A, cap, rfl, hcl, hrow⟩ := own_form hd.cache
  have hkept := hd.kept
  have hgd : d.kept.getD i [] = d.kept[i] := by rw [List.getD_eq_getElem?_getD, List.getElem?_eq_getElem hi]; rfl
  rw [hgd]
  clear hgd
  have hlen64 : (d.kept[i]).length = 64 := hd.wf.all _ (List.getElem_mem hi)
  have hblt : b < w.heap.size := block_lt hd.blk
  have hklt : kb < w.heap.size := block_lt hkept
  have HD := Lib.hid hd
  have HROW := Lib.hid hrow
  have HLEN := Lib.hid hlen64
  have HALL := Lib.hid hd.wf.all
  have hn := hd.wf.cw
  clear hd hrow hlen64 hn
  go_enter Tryd.func73, Tryd.ntmps73
  go_wp2_with (first | (go_at_call 83; refine hL.out.mono ?_; rintro e w' ⟨rfl, rfl⟩) | ((with_reducible refine wpList_load_sector rfl _ rfl kb i ?_ d.kept hkept HALL.out hi ?_); (· rfl)) | (with_reducible refine wpList_new_sector rfl rfl ?_) | ((with_reducible refine wpList_put_sector rfl _ _ rfl d.kept[i] HLEN.out ?_ ?_ ?_); (· rfl); (· rfl)))
  go_loopw [28] (fun u wr => ∃ k : Nat, k ≤ d.cache.length ∧ u = .int .i64 k ∧ wr.heap[w.heap.size]? = some (.cells (bv (lastOf i (d.cache.take k) d.kept[i])).toArray 105 (0, 0)) ∧ Below w.heap.size w wr) (fun u _ => d.cache.length - (intOf u).toNat)
  case atStart => exact ⟨0, Nat.zero_le _, rfl, by rw [heap_alloc_new]; rfl, (Below.refl _ _).alloc (Nat.le_refl _) _⟩
  case round =>
    obtain ⟨k, hk, rfl, hs, hb⟩ := hrel
    have HB := Lib.hid hb
    have hsz : w.heap.size < wr.heap.size := block_lt hs
    clear hb
    by_cases hlt : k < d.cache.length
    · obtain ⟨g, cur, rfl, -, hg0, hcur⟩ := HROW.out (by omega)
      have hg : wr.heap[g]? = some (.cells cur 107 (0, 0)) := (HB.out.block g (block_lt hg0)).trans hg0
      have HCUR := Lib.hid hcur
      clear hg0 hcur
      obtain ⟨a, s, hp⟩ : ∃ a s, d.cache[k] = (a, s) := ⟨_, _, rfl⟩
      have hps : s.length = 64 := by have := (HD.out.wf.fits _ (List.getElem_mem hlt)).2; rw [hp] at this; exact this
      have hw0 : (wrV (a, s))[0]? = some (.int .i64 a) := rfl
      have HP := Lib.hid hp
      have HPS := Lib.hid hps
      clear hp hps
      have hstep : lastOf i (d.cache.take (k + 1)) d.kept[i] = if a = i then s else lastOf i (d.cache.take k) d.kept[i] := by
        rw [List.take_succ_eq_append_getElem hlt, HP.out, lastOf_snoc]
      have HSTEP := Lib.hid hstep
      have HT := Lib.hid (lastOf_len i d.kept.length (d.cache.take k) d.kept[i] (HD.out.wf.fits.take k) HLEN.out)
      clear hstep
      have HS := Lib.hid hs
      clear hs
      by_cases he : a = i
      · subst he
        go_wp2_with (first | ((with_reducible refine wpList_load_write rfl _ rfl g k ?_ cur hg d.kept.length d.cache HD.out.wf.fits HCUR.out hlt (a, s) HP.out ?_); (· rfl)) | (with_reducible refine wpList_new_write rfl rfl ?_) | ((with_reducible refine wpList_put_write rfl _ _ rfl (a, s) HPS.out ?_ ?_ ?_); (· rfl); (· rfl)) | ((with_reducible refine wpList_load_part rfl _ rfl wr.heap.size ?_ (a, s) HPS.out (heap_alloc_new _ _) ?_); (· rfl)) | ((with_reducible refine wpList_over_sector rfl _ _ rfl w.heap.size s (lastOf a (d.cache.take k) d.kept[a]) HPS.out HT.out ?_ ?_ ((Below.heap_alloc _ _ _ hsz).trans HS.out) ?_); (· rfl); (· rfl)))
        go_roundw
        case rel =>
          refine ⟨k + 1, by omega, by go_num, ?_, ?_⟩
          · rw [HSTEP.out, if_pos rfl]
            exact setRow_heap _ _ _ _ _ _ ((Below.heap_alloc _ _ _ hsz).trans HS.out)
          · exact ((Fr.of_below (F := fun _ => False) HB.out).alloc _ |>.setRow (.inr (Nat.le_refl _)) _).below (Nat.le_refl _) (fun _ h => h.elim)
        case measure => simp [intOf]; omega
      · have hne : ((a : Int) == (i : Int)) = false := by simp; omega
        go_wp2_with (first | ((with_reducible refine wpList_load_write rfl _ rfl g k ?_ cur hg d.kept.length d.cache HD.out.wf.fits HCUR.out hlt (a, s) HP.out ?_); (· rfl)) | (with_reducible refine wpList_new_write rfl rfl ?_) | ((with_reducible refine wpList_put_write rfl _ _ rfl (a, s) HPS.out ?_ ?_ ?_); (· rfl); (· rfl)))
        go_roundw
        case rel =>
          refine ⟨k + 1, by omega, by go_num, ?_, ?_⟩
          · rw [HSTEP.out, if_neg he]
            exact (Below.heap_alloc _ _ _ hsz).trans HS.out
          · exact HB.out.alloc (by omega) _
        case measure => simp [intOf]; omega
    · obtain rfl : k = d.cache.length := by omega
      rw [List.take_length] at hs
      have hlen := lastOf_len i d.kept.length d.cache d.kept[i] HD.out.wf.fits HLEN.out
      have hconv := run_convert_bytes_back (P := Tryd.prog) wr 52 9 5 ⟨w.heap.size, 0, none⟩ 64 (lastOf i d.cache d.kept[i]) (by kernel_rfl) (by kernel_rfl) (by kernel_rfl) (fun j hj => by
        rw [add_at, block_cell hs, Nat.zero_add, List.getElem?_toArray, bv_get, List.getElem?_eq_getElem hj]; rfl)
      rw [hlen] at hconv
      clear hlen hs
      go_wp2
      go_ret2
      exact ⟨rfl, HB.out⟩

/-- disk.Read, whatever the place. -/
theorem read_any {w : World} {F : Nat → Prop} {b : Nat} {d : DSt} (h : IsDisk w F b d) (at_ : Int) :
    Calls Tryd.prog 73 #[.pointer (some ⟨b, 0, none⟩), .int .i64 at_] w fun e w' =>
      e = .returned (.tuple #[.string ⟨(d.read at_).1.toArray⟩, .int .i64 (d.read at_).2]) ∧ Below w.heap.size w w' := by
  by_cases hc : d.check at_ = 0
  · obtain ⟨h1, h2, h3⟩ := DSt.check_zero hc
    obtain ⟨i, rfl⟩ := Int.eq_ofNat_of_zero_le h2
    have he : d.read (i : Int) = (lastOf i d.cache (d.kept.getD i []), 0) := by simp [DSt.read, hc]
    rw [he]
    exact read_good h i (by omega) h1
  · have he : d.read at_ = ([], d.check at_) := by simp [DSt.read, hc]
    rw [he]
    refine (read_bad h at_ hc).mono fun e w' ⟨h1, h2⟩ => ?_
    subst h2
    exact ⟨h1, Below.refl _ _⟩
end Go.Proofs.YtbdhicjebeoakaaDoor
