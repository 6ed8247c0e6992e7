/-
  WALKS: slices.Equal at bytes and bools; a strings.Builder's writers (after the shelf's own walks); hex, kept of the program.
-/
import Derived.Lib.FrozenHead2
import Derived.Lib.OthersKept
import Derived.Test.YtjcbfbdbgplakaaDoorW2
namespace Go.Proofs.YtjcbfbdbgplakaaDoor
open Go.RowKit
open Fm (Bs Mv)
theorem cell_lt {w : World} {a : Addr} {v : Value} (h : w.cell? a = some v) : a.block < w.heap.size := by
  rcases Nat.lt_or_ge a.block w.heap.size with h' | h'
  · exact h'
  · simp [World.cell?, Array.getElem?_eq_none h'] at h

set_option maxRecDepth 100000 in
set_option maxHeartbeats 1000000 in
theorem equal53_any (A B : Option Addr) (c d : Nat) (a b : Bs) (w : World) (ha : Bytes w w.heap.size A a) (hb : Bytes w w.heap.size B b) (la : a.length ≤ 1048576) (lb : b.length ≤ 1048576) :
    Calls Tryd.prog 53 #[.slice A a.length c, .slice B b.length d] w fun e w' => e = .returned (.bool (a == b)) ∧ Below w.heap.size w w' := by
  by_cases hl : a.length = b.length
  · have hlen : ((a.length : Int) != (b.length : Int)) = false := by simp only [bne_eq_false_iff_eq]; omega
    have HL := Lib.hid hl
    clear hl
    go_enter Tryd.func53, Tryd.ntmps53
    go_wp2
    go_loopw [5, 13] (fun _ i wr => ∃ (k : Nat), k ≤ a.length ∧ i = .int .i64 k ∧ a.take k = b.take k ∧ Below w.heap.size w wr)
      (fun _ i _ => a.length - (intOf i).toNat)
    case atStart => exact ⟨0, Nat.zero_le _, rfl, rfl, Below.refl _ _⟩
    case round =>
      obtain ⟨k, hk, rfl, he, hw⟩ := hrel
      have HE := Lib.hid he
      clear he
      by_cases hlt : k < a.length
      · have hlb : k < b.length := by have := HL.out; omega
        obtain ⟨ad, u, hA, hadb, hu, hc⟩ := (ha.below hw (Nat.le_refl _)).at_ hlt
        obtain ⟨bd, v, hB, hbdb, hv, hd⟩ := (hb.below hw (Nat.le_refl _)).at_ hlb
        subst hA
        subst hB
        rw [u8s_at a k hlt] at hu
        rw [u8s_at b k hlb] at hv
        simp only [Option.some.injEq] at hu hv
        obtain ⟨x, hx⟩ : ∃ x, a[k] = x := ⟨_, rfl⟩
        obtain ⟨y, hy⟩ : ∃ y, b[k] = y := ⟨_, rfl⟩
        rw [← hu, hx] at hc
        rw [← hv, hy] at hd
        have HX := Lib.hid hx
        have HY := Lib.hid hy
        clear hu hv hx hy
        by_cases hxy : x = y
        · subst hxy
          have bq : ((x.toNat : Int) != (x.toNat : Int)) = false := by simp

          go_wp2_with fail
          go_quiet (fail)
          rename_i nq
          go_wp2
          go_roundw
          case rel =>
            refine ⟨k + 1, by omega, by go_num, ?_, bdrewN hw nq⟩
            rw [List.take_succ_eq_append_getElem hlt, List.take_succ_eq_append_getElem hlb, HE.out, HX.out, HY.out]
          case measure => simp [intOf]; omega
        · have bq : ((x.toNat : Int) != (y.toNat : Int)) = true := by rw [bne_iff_ne]; intro h; exact hxy (UInt8.toNat.inj (by omega))

          have hne : (a == b) = false := by
            rw [beq_eq_false_iff_ne]
            rintro rfl
            exact hxy (HX.out.symm.trans HY.out)
          have HN := Lib.hid hne
          clear hne hxy
          go_wp2_with fail
          go_quiet (fail)
          rename_i nq
          go_wp2
          go_ret
          exact ⟨by rw [HN.out]; rfl, bdrewN hw nq⟩
      · obtain rfl : k = a.length := by omega
        have heq : (a == b) = true := by
          have h1 := HE.out
          rw [List.take_of_length_le (Nat.le_refl _), List.take_of_length_le (Nat.le_of_eq HL.out.symm)] at h1
          rw [h1]; simp
        have HQ := Lib.hid heq
        clear heq
        go_wp2
        go_ret
        exact ⟨by rw [HQ.out]; rfl, hw⟩
  · have hlen : ((a.length : Int) != (b.length : Int)) = true := by rw [bne_iff_ne]; omega
    have hne : (a == b) = false := by
      rw [beq_eq_false_iff_ne]
      rintro rfl
      exact hl rfl
    have HN := Lib.hid hne
    clear hne hl
    go_enter Tryd.func53, Tryd.ntmps53
    go_wp2
    go_ret
    exact ⟨by rw [HN.out]; rfl, Below.refl _ _⟩

set_option maxRecDepth 100000 in
set_option maxHeartbeats 1000000 in
theorem equal54_any (A B : Option Addr) (c d : Nat) (a b : List Bool) (w : World) (ha : Bools w w.heap.size A a) (hb : Bools w w.heap.size B b) (la : a.length ≤ 1048576) (lb : b.length ≤ 1048576) :
    Calls Tryd.prog 54 #[.slice A a.length c, .slice B b.length d] w fun e w' => e = .returned (.bool (a == b)) ∧ Below w.heap.size w w' := by
  by_cases hl : a.length = b.length
  · have hlen : ((a.length : Int) != (b.length : Int)) = false := by simp only [bne_eq_false_iff_eq]; omega
    have HL := Lib.hid hl
    clear hl
    go_enter Tryd.func54, Tryd.ntmps54
    go_wp2
    go_loopw [5, 13] (fun _ i wr => ∃ (k : Nat), k ≤ a.length ∧ i = .int .i64 k ∧ a.take k = b.take k ∧ Below w.heap.size w wr)
      (fun _ i _ => a.length - (intOf i).toNat)
    case atStart => exact ⟨0, Nat.zero_le _, rfl, rfl, Below.refl _ _⟩
    case round =>
      obtain ⟨k, hk, rfl, he, hw⟩ := hrel
      have HE := Lib.hid he
      clear he
      by_cases hlt : k < a.length
      · have hlb : k < b.length := by have := HL.out; omega
        obtain ⟨ad, u, hA, hadb, hu, hc⟩ := (ha.below hw (Nat.le_refl _)).at_ hlt
        obtain ⟨bd, v, hB, hbdb, hv, hd⟩ := (hb.below hw (Nat.le_refl _)).at_ hlb
        subst hA
        subst hB
        rw [bls_at a k hlt] at hu
        rw [bls_at b k hlb] at hv
        simp only [Option.some.injEq] at hu hv
        obtain ⟨x, hx⟩ : ∃ x, a[k] = x := ⟨_, rfl⟩
        obtain ⟨y, hy⟩ : ∃ y, b[k] = y := ⟨_, rfl⟩
        rw [← hu, hx] at hc
        rw [← hv, hy] at hd
        have HX := Lib.hid hx
        have HY := Lib.hid hy
        clear hu hv hx hy
        by_cases hxy : x = y
        · subst hxy
          have bq : (x != x) = false := by simp
          have bq2 : (!x == x) = false := by simp
          go_wp2_with fail
          go_quiet (fail)
          rename_i nq
          go_wp2
          go_roundw
          case rel =>
            refine ⟨k + 1, by omega, by go_num, ?_, bdrewN hw nq⟩
            rw [List.take_succ_eq_append_getElem hlt, List.take_succ_eq_append_getElem hlb, HE.out, HX.out, HY.out]
          case measure => simp [intOf]; omega
        · have bq : (x != y) = true := by simpa using hxy
          have bq2 : (!x == y) = true := by simpa using hxy
          have hne : (a == b) = false := by
            rw [beq_eq_false_iff_ne]
            rintro rfl
            exact hxy (HX.out.symm.trans HY.out)
          have HN := Lib.hid hne
          clear hne hxy
          go_wp2_with fail
          go_quiet (fail)
          rename_i nq
          go_wp2
          go_ret
          exact ⟨by rw [HN.out]; rfl, bdrewN hw nq⟩
      · obtain rfl : k = a.length := by omega
        have heq : (a == b) = true := by
          have h1 := HE.out
          rw [List.take_of_length_le (Nat.le_refl _), List.take_of_length_le (Nat.le_of_eq HL.out.symm)] at h1
          rw [h1]; simp
        have HQ := Lib.hid heq
        clear heq
        go_wp2
        go_ret
        exact ⟨by rw [HQ.out]; rfl, hw⟩
  · have hlen : ((a.length : Int) != (b.length : Int)) = true := by rw [bne_iff_ne]; omega
    have hne : (a == b) = false := by
      rw [beq_eq_false_iff_ne]
      rintro rfl
      exact hl rfl
    have HN := Lib.hid hne
    clear hne hl
    go_enter Tryd.func54, Tryd.ntmps54
    go_wp2
    go_ret
    exact ⟨by rw [HN.out]; rfl, Below.refl _ _⟩
theorem info53 : (Tryd.prog.info? 53).map (fun i => i.size) = some 2 := by kernel_rfl
set_option maxHeartbeats 1000000 in
set_option maxRecDepth 100000 in
theorem copyCheck_used (b : Nat) (w : World) (h0 : w.cell? ⟨b, 0, none⟩ = some (.pointer (some ⟨b, 0, none⟩))) :
    Calls Tryd.prog 39 #[.pointer (some ⟨b, 0, none⟩)] w fun e w' => e = .returned (.tuple #[]) ∧ w' = w := by
  obtain ⟨j, hj, _⟩ := Option.map_eq_some_iff.1 info53
  have hq : (binOp .neq 51 (.pointer (some ⟨b, 0, none⟩)) (.pointer (some ⟨b, 0, none⟩))).run Tryd.prog w = .ok (.bool false) w := Lib.run_neq_ptr_same w _ Tryd.underlying51 hj
  go_enter Tryd.func39, Tryd.ntmps39
  go_wp2
  go_end0
  exact ⟨rfl, rfl⟩
set_option maxHeartbeats 1000000 in
set_option maxRecDepth 100000 in
theorem copyCheck_fresh (b : Nat) (w : World) (h0 : w.cell? ⟨b, 0, none⟩ = some (.pointer none)) (hsh : w.shape? b = some (53, 2)) (hfz : w.frozen? ⟨b, 0, none⟩ = false) :
    Calls Tryd.prog 39 #[.pointer (some ⟨b, 0, none⟩)] w fun e w' => e = .returned (.tuple #[]) ∧ w' = w.setCell ⟨b, 0, none⟩ (.pointer (some ⟨b, 0, none⟩)) := by
  obtain ⟨j, hj, hjs⟩ := Option.map_eq_some_iff.1 info53
  go_enter Tryd.func39, Tryd.ntmps39
  go_wp2
  rw [Lib.run_to_unsafe w ⟨b, 0, none⟩ Tryd.underlying51 Tryd.underlying97 hj (by rw [hjs]; decide) hsh (Nat.zero_lt_succ 1)]
  simp only [Result.andThen]
  rw [Oper.upon_value]
  go_wp2
  rw [run_callFunc_extern Tryd.func55 (by kernel_rfl) (by kernel_rfl) (by kernel_rfl) (e := Extern.AbiNoEscape.same) (by kernel_rfl)]
  rw [Lib.run_noEscape]
  simp only [Result.andThen]
  rw [Oper.upon_value]
  go_wp2
  rw [Lib.run_from_unsafe w ⟨b, 0, none⟩ Tryd.underlying97 Tryd.underlying51 hj hsh (by kernel_rfl)]
  simp only [Result.andThen]
  rw [Oper.upon_value]
  go_wp2
  go_end0
  exact ⟨rfl, rfl⟩

theorem copyCheck_k (B b : Nat) (bs : List Value) (w : World) (h : Lib.IsBuilderF 53 5 B b bs w) :
    Calls Tryd.prog 39 #[.pointer (some ⟨b, 0, none⟩)] w fun e w' => e = .returned (.tuple #[]) ∧ (Lib.BuilderAtF 53 5 B b (.pointer (some ⟨b, 0, none⟩)) bs w' ∧ Below B w w' ∧ Lib.OthersKept 5 (some b) w w') := by
  rcases h with h | h
  · refine (copyCheck_fresh b w h.cell0 h.shape h.frozen0).mono ?_
    rintro e w' ⟨rfl, rfl⟩
    exact ⟨rfl, h.used _, (Below.refl B w).setCell (p := ⟨b, 0, none⟩) h.1 _, (Lib.OthersKept.refl _ _ w).setCell ⟨b, 0, none⟩ rfl _⟩
  · refine (copyCheck_used b w h.cell0).mono ?_
    rintro e w' ⟨rfl, rfl⟩
    exact ⟨rfl, h, Below.refl B _, Lib.OthersKept.refl _ _ _⟩

set_option maxHeartbeats 2000000 in
set_option maxRecDepth 100000 in
theorem writeByte_k (B b : Nat) (bs : List Value) (c : Int) (w : World) (h : Lib.IsBuilderF 53 5 B b bs w) (hlen : bs.length + 1 ≤ 140737488355328) (hBw : B ≤ w.heap.size) :
    Calls Tryd.prog 51 #[.pointer (some ⟨b, 0, none⟩), .int .u8 c] w fun e w' => e = .returned .nilIface ∧ (Lib.BuilderAtF 53 5 B b (.pointer (some ⟨b, 0, none⟩)) (bs ++ [.int .u8 c]) w' ∧ Below B w w' ∧ Lib.OthersKept 5 (some b) w w') := by
  obtain ⟨i0, hi, hz0, hz1, hz2⟩ := info_parts info5
  go_enter Tryd.func51, Tryd.ntmps51
  go_wp2_with (go_at_call 39; refine (copyCheck_k B b bs _ h).mono ?_)
  rintro e w1 ⟨rfl, h1, hb1, hk1⟩
  obtain ⟨hB, v, hbk, hown, hne⟩ := h1
  have c0 : w1.cell? ⟨b, 0, none⟩ = some (.pointer (some ⟨b, 0, none⟩)) := by rw [Lib.cell_of_heap hbk]; rfl
  have c1 : w1.cell? ⟨b, 1, none⟩ = some v := by rw [Lib.cell_of_heap hbk]; rfl
  go_wp2_with (at_builtin; refine wpList_append_ownF _ rfl _ _ 32 rfl B 5 i0 (.int .u8 0) 1 1 Tryd.underlying32 hi hz0 hz1 hz2 rfl (by decide) _ _ _ rfl (hown.alloc _) ⟨w1.heap.size, 0, none⟩ 1 1 [.int .u8 c] rfl rfl ?c1 ?c2 ?c3 ?c4 ?c5 ?_)
  case c1 => exact one_cell _ _ _
  case c2 => exact u8_one _
  case c3 => unfold maxLen; omega
  case c4 => omega
  case c5 => have := hb1.size; simp; omega
  intro v' w2 hown' hgrow _
  have hlt : b < w1.heap.size := by
    rcases Nat.lt_or_ge b w1.heap.size with h' | h'
    · exact h'
    · simp [Array.getElem?_eq_none h'] at hbk
  have hb2 : w2.heap[b]? = some (.cells #[.pointer (some ⟨b, 0, none⟩), v] 53 (0, 0)) := by
    rw [hgrow.block b (by simp; omega) (fun e => hne e.symm), Lib.alloc_old w1 _ b hlt]
    exact hbk
  have d0 : w2.cell? ⟨b, 0, none⟩ = some (.pointer (some ⟨b, 0, none⟩)) := by rw [Lib.cell_of_heap hb2]; rfl
  have d1 : w2.cell? ⟨b, 1, none⟩ = some v := by rw [Lib.cell_of_heap hb2]; rfl
  have f1 : w2.frozen? ⟨b, 1, none⟩ = false := Lib.frozen_of_heap hb2 1
  obtain ⟨g, cap, rfl⟩ : ∃ g cap, v' = .slice (some ⟨g, 0, none⟩) (bs.length + 1) cap := by
    rcases hown'.2 with ⟨_, h0⟩ | ⟨g, cap, cur, fz, hv, _⟩
    · omega
    · exact ⟨g, cap, hv⟩
  go_wp2
  go_ret
  refine ⟨rfl, ?_, ?_, ((hk1.alloc _).grown hgrow (Lib.ownsRowF_kind (hown.alloc _))).setCell ⟨b, 1, none⟩ rfl _⟩
  · exact Lib.BuilderAtF.put (T := 53) (e := 5) hB hb2 (bs' := bs ++ [.int .u8 c]) (by simpa using hown') (by decide)
  · exact ((hb1.alloc (by have := hb1.size; omega) _).grown hgrow (by have := hb1.size; simp; omega) (fun k hk => (hown.lt k hk).1)).setCell (p := ⟨b, 1, none⟩) hB _

set_option maxHeartbeats 2000000 in
set_option maxRecDepth 100000 in
theorem writeString_k (B b : Nat) (bs : List Value) (s : ByteArray) (w : World) (h : Lib.IsBuilderF 53 5 B b bs w) (hlen : bs.length + s.size ≤ 140737488355328) (hBw : B ≤ w.heap.size) :
    Calls Tryd.prog 17 #[.pointer (some ⟨b, 0, none⟩), .string s] w fun e w' => e = .returned (.tuple #[.int .i64 s.size, .nilIface]) ∧ (Lib.BuilderAtF 53 5 B b (.pointer (some ⟨b, 0, none⟩)) (bs ++ Lib.strCells s) w' ∧ Below B w w' ∧ Lib.OthersKept 5 (some b) w w') := by
  obtain ⟨i0, hi, hz0, hz1, hz2⟩ := info_parts info5
  go_enter Tryd.func17, Tryd.ntmps17
  go_wp2_with (go_at_call 39; refine (copyCheck_k B b bs _ h).mono ?_)
  rintro e w1 ⟨rfl, h1, hb1, hk1⟩
  obtain ⟨hB, v, hbk, hown, hne⟩ := h1
  have c0 : w1.cell? ⟨b, 0, none⟩ = some (.pointer (some ⟨b, 0, none⟩)) := by rw [Lib.cell_of_heap hbk]; rfl
  have c1 : w1.cell? ⟨b, 1, none⟩ = some v := by rw [Lib.cell_of_heap hbk]; rfl
  go_wp2_with (at_builtin; refine Lib.wpList_append_own_stringF _ rfl _ _ 32 9 rfl B 5 i0 Tryd.underlying32 Tryd.underlying9 hi hz0 hz1 hz2 _ _ _ rfl hown s rfl ?c3 ?c4 ?c5 ?_)
  case c3 => unfold maxLen; omega
  case c4 => omega
  case c5 => have := hb1.size; omega
  intro v' w2 hown' hgrow _
  have hlt : b < w1.heap.size := by
    rcases Nat.lt_or_ge b w1.heap.size with h' | h'
    · exact h'
    · simp [Array.getElem?_eq_none h'] at hbk
  have hb2 : w2.heap[b]? = some (.cells #[.pointer (some ⟨b, 0, none⟩), v] 53 (0, 0)) := by
    rw [hgrow.block b hlt (fun e => hne e.symm)]
    exact hbk
  have d0 : w2.cell? ⟨b, 0, none⟩ = some (.pointer (some ⟨b, 0, none⟩)) := by rw [Lib.cell_of_heap hb2]; rfl
  have d1 : w2.cell? ⟨b, 1, none⟩ = some v := by rw [Lib.cell_of_heap hb2]; rfl
  have f1 : w2.frozen? ⟨b, 1, none⟩ = false := Lib.frozen_of_heap hb2 1
  obtain ⟨ao, n', cap, rfl⟩ : ∃ ao n' cap, v' = .slice ao n' cap := by
    rcases hown'.2 with ⟨hv, _⟩ | ⟨g, cap, cur, fz, hv, _⟩
    · exact ⟨_, _, _, hv⟩
    · exact ⟨_, _, _, hv⟩
  go_wp2
  go_ret2
  refine ⟨rfl, ?_, ?_, (hk1.grown hgrow (Lib.ownsRowF_kind hown)).setCell ⟨b, 1, none⟩ rfl _⟩
  · exact Lib.BuilderAtF.put (T := 53) (e := 5) hB hb2 (bs' := bs ++ Lib.strCells s) (by simpa [Lib.strCells_length] using hown') (by decide)
  · exact (hb1.grown hgrow (by have := hb1.size; omega) (fun k hk => (hown.lt k hk).1)).setCell (p := ⟨b, 1, none⟩) hB _

theorem hexs_get (n : Nat) (h : n < (⟨#[48, 49, 50, 51, 52, 53, 54, 55, 56, 57, 97, 98, 99, 100, 101, 102]⟩ : ByteArray).size) : ((⟨#[48, 49, 50, 51, 52, 53, 54, 55, 56, 57, 97, 98, 99, 100, 101, 102]⟩ : ByteArray)[n]'h).toNat = (Fm.hd n).toNat := by
  have h' : n < 16 := h
  unfold Fm.hd
  rcases (by omega : n = 0 ∨ n = 1 ∨ n = 2 ∨ n = 3 ∨ n = 4 ∨ n = 5 ∨ n = 6 ∨ n = 7 ∨ n = 8 ∨ n = 9 ∨ n = 10 ∨ n = 11 ∨ n = 12 ∨ n = 13 ∨ n = 14 ∨ n = 15) with rfl | rfl | rfl | rfl | rfl | rfl | rfl | rfl | rfl | rfl | rfl | rfl | rfl | rfl | rfl | rfl <;> rfl
set_option maxRecDepth 100000 in
set_option maxHeartbeats 1000000 in
theorem hexF_any (A : Option Addr) (c : Nat) (l : Bs) (w : World) (h : Bytes w w.heap.size A l) (hl : l.length ≤ 1048576) :
    Calls Tryd.prog 35 #[.slice A l.length c] w fun e w' => e = .returned (.string (str (Fm.hexed l))) ∧ Below w.heap.size w w' := by
  have CB := Lib.hid writeByte_k
  go_enter Tryd.func35, Tryd.ntmps35
  go_wp2
  go_loopw [5, 8] (fun _ i wr => ∃ (k : Nat), k ≤ l.length ∧ i = .int .i64 k ∧ Lib.IsBuilderF 53 5 w.heap.size w.heap.size (Lib.byteCells (Fm.hexed (l.take k))) wr ∧ Below w.heap.size w wr ∧ w.heap.size ≤ wr.heap.size)
    (fun _ i _ => l.length - (intOf i).toNat)
  case atStart => exact ⟨0, Nat.zero_le _, rfl, Lib.IsBuilderF.of (Lib.fresh_isBuilder 53 5 w), (Below.refl _ _).alloc (Nat.le_refl _) _, by simp⟩
  case round =>
    obtain ⟨k, hk, rfl, hB, hb, hsz⟩ := hrel
    by_cases hlt : k < l.length
    · obtain ⟨ad, u, hA, hadb, hu, hc⟩ := (h.below hb (Nat.le_refl _)).at_ hlt
      subst hA
      rw [u8s_at l k hlt] at hu
      obtain rfl : Value.int .u8 (l[k].toNat : Int) = u := by simpa using hu
      obtain ⟨bk, hbk⟩ : ∃ bk : Nat, l[k].toNat = bk := ⟨_, rfl⟩
      have hbk' : bk < 256 := hbk ▸ Fm.byte_lt _
      rw [hbk] at hc
      have HB : Hid (l[k].toNat = bk) := hbk
      clear hbk hu
      have hbl : (Lib.byteCells (Fm.hexed (l.take k))).length + 2 ≤ 140737488355328 := by rw [Lib.byteCells_length, Fm.hexed_len, List.length_take]; omega
      go_wp2_with fail
      refine (CB.out w.heap.size w.heap.size (Lib.byteCells (Fm.hexed (l.take k))) _ wr hB (by omega) hsz).mono ?_
      rintro e w1 ⟨rfl, hB1, hb1, _⟩
      have hs1 := hb1.size
      go_wp2_with fail
      refine (CB.out w.heap.size w.heap.size _ _ w1 (.inr hB1) (by rw [List.length_append]; simp only [List.length_singleton]; omega) (by omega)).mono ?_
      rintro e w2 ⟨rfl, hB2, hb2, _⟩
      have hs2 := hb2.size
      go_wp2
      go_roundw
      case rel =>
        refine ⟨k + 1, by omega, by go_num, .inr ?_, (hb.trans hb1).trans hb2, by omega⟩
        rw [hexed_take l k hlt, HB.out, Lib.byteCells_append]
        rw [hexs_get, hexs_get, List.append_assoc] at hB2
        exact hB2
      case measure => simp [intOf]; omega
    · obtain rfl : k = l.length := by omega
      rw [List.take_of_length_le (Nat.le_refl _)] at hB
      go_wp2_with fail
      refine (Tryd.Builder_String_any_k _ _ _ _ hB hsz).mono ?_
      rintro e w1 ⟨rfl, _, hb1, _⟩
      go_wp2
      go_ret
      exact ⟨rfl, hb.trans hb1⟩

set_option maxRecDepth 100000 in
set_option maxHeartbeats 1000000 in
theorem keptF_any (A : Option Addr) (c : Nat) (l : List Bool) (w : World) (h : Bools w w.heap.size A l) (hl : l.length ≤ 1048576) :
    Calls Tryd.prog 36 #[.slice A l.length c] w fun e w' => e = .returned (.string (str (Fm.kept l))) ∧ Below w.heap.size w w' := by
  have CB := Lib.hid writeByte_k
  by_cases h0 : l = []
  · subst h0
    have hz : ((0 : Int) == 0) = true := rfl
    go_enter Tryd.func36, Tryd.ntmps36
    go_wp2
    go_ret
    exact ⟨rfl, Below.refl _ _⟩
  · have hpos : 0 < l.length := List.length_pos_iff.2 h0
    have hz : ((l.length : Int) == 0) = false := by simp; omega
    have HK : Hid (Fm.kept l = l.map (fun b => if b then 49 else 48)) := by unfold Fm.kept; rw [if_neg h0]; rfl
    go_enter Tryd.func36, Tryd.ntmps36
    go_wp2
    go_loopw [5, 11] (fun _ i wr => ∃ (k : Nat), k ≤ l.length ∧ i = .int .i64 k ∧ Lib.IsBuilderF 53 5 w.heap.size w.heap.size (Lib.byteCells ((l.map (fun b => if b then (49 : UInt8) else 48)).take k)) wr ∧ Below w.heap.size w wr ∧ w.heap.size ≤ wr.heap.size)
      (fun _ i _ => l.length - (intOf i).toNat)
    case atStart => exact ⟨0, Nat.zero_le _, rfl, Lib.IsBuilderF.of (Lib.fresh_isBuilder 53 5 w), (Below.refl _ _).alloc (Nat.le_refl _) _, by simp⟩
    case round =>
      obtain ⟨k, hk, rfl, hB, hb, hsz⟩ := hrel
      by_cases hlt : k < l.length
      · obtain ⟨ad, u, hA, hadb, hu, hc⟩ := (h.below hb (Nat.le_refl _)).at_ hlt
        subst hA
        rw [bls_at l k hlt] at hu
        obtain rfl : Value.bool l[k] = u := by simpa using hu
        obtain ⟨bk, hbk⟩ : ∃ bk, l[k] = bk := ⟨_, rfl⟩
        rw [hbk] at hc
        have HB : Hid (l[k] = bk) := hbk
        clear hbk hu
        have hbl : (Lib.byteCells ((l.map (fun b => if b then (49 : UInt8) else 48)).take k)).length + 1 ≤ 140737488355328 := by rw [Lib.byteCells_length, List.length_take, List.length_map]; omega
        cases bk
        all_goals
          go_wp2_with fail
          refine (CB.out w.heap.size w.heap.size (Lib.byteCells ((l.map (fun b => if b then (49 : UInt8) else 48)).take k)) _ wr hB (by omega) hsz).mono ?_
          rintro e w1 ⟨rfl, hB1, hb1, _⟩
          have hs1 := hb1.size
          go_wp2
          go_roundw
          case rel =>
            refine ⟨k + 1, by omega, by go_num, .inr ?_, hb.trans hb1, by omega⟩
            rw [List.take_succ_eq_append_getElem (by simpa using hlt), Lib.byteCells_append, List.getElem_map, HB.out]
            exact hB1
          case measure => simp [intOf]; omega
      · obtain rfl : k = l.length := by omega
        rw [List.take_of_length_le (by simp)] at hB
        go_wp2_with fail
        refine (Tryd.Builder_String_any_k _ _ _ _ hB hsz).mono ?_
        rintro e w1 ⟨rfl, _, hb1, _⟩
        go_wp2
        go_ret
        exact ⟨by rw [HK.out]; rfl, hb.trans hb1⟩
end Go.Proofs.YtjcbfbdbgplakaaDoor
