/-
  WALKS: place, the two shapes, get, digit, name, of.
-/
import Derived.WalkSpells
import Derived.WalkLawsBesides
import Derived.Outline
import Derived.Deep.DeepFit
import Derived.Deep.DeepMust
import Derived.Test.YtjcbfbdbgplakaaDoorBase
namespace Go.Proofs.YtjcbfbdbgplakaaDoor
open Go.RowKit
open Fm (Bs Mv)

/-- Where in a move a part's number stands. -/
def off (c : Int) : Nat := if c = 112 then 5 else if c = 97 then 6 else if c = 110 then 7 else if c = 114 then 8 else if c = 65 then 1 else if c = 66 then 2 else 3

theorem place_any (b : Nat) (c : Int) (w : World) :
    Calls Tryd.prog 32 #[.pointer (some ⟨b, 0, none⟩), .int .i32 c] w fun e w' => e = .returned (.pointer (some ⟨b, off c, none⟩)) ∧ w = w' := by
  go_enter Tryd.func32, Tryd.ntmps32
  go_wp2
  all_goals go_ret
  all_goals (refine ⟨?_, rfl⟩; simp_all [off])

set_option maxHeartbeats 400000 in
theorem shapeF_any (s : ByteArray) (w : World) :
    Calls Tryd.prog 28 #[.string s] w fun e w' => e = .returned (.tuple #[.int .i64 (Fm.shape s.data.toList).1, .int .i64 (Fm.shape s.data.toList).2.1, .string (str (Fm.shape s.data.toList).2.2)]) ∧ w = w' := by
  rw [← ByteArray.toList_eq]
  go_enter Tryd.func28, Tryd.ntmps28
  go_wp2
  all_goals go_ret3
  all_goals (refine ⟨?_, rfl⟩; simp only [Fm.shape, Fm.tab, List.find?, *]; rfl)
/-- The number of a part. -/
def part (m : Mv) (c : Int) : Int := if c = 112 then m.p else if c = 97 then m.t else if c = 110 then m.m else if c = 114 then m.r else if c = 65 then m.a else if c = 66 then m.b else m.n

theorem get_any (k a b n o p t m r : Int) (d : Bs) (e : List Bool) (A9 A10 : Option Addr) (n9 c9 n10 c10 : Nat) (c : Int) (w : World) :
    Calls Tryd.prog 23 #[.agg #[.int .i64 k, .int .i64 a, .int .i64 b, .int .i64 n, .int .i64 o, .int .i64 p, .int .i64 t, .int .i64 m, .int .i64 r, .slice A9 n9 c9, .slice A10 n10 c10], .int .u8 c] w
      fun e' w' => e' = .returned (.int .i64 (part ⟨k, a, b, n, o, p, t, m, r, d, e⟩ c)) ∧ Below w.heap.size w w' := by
  go_enter Tryd.func23, Tryd.ntmps23
  go_wp2
  all_goals go_ret
  all_goals (refine ⟨?_, (Below.refl _ _).alloc (Nat.le_refl _) _⟩; simp_all [part])
theorem ret_int {k : IntKind} {a b : Int} (h : a = b) : Ending.returned (.int k a) = .returned (.int k b) := by rw [h]
theorem digit_any (c : UInt8) (w : World) :
    Calls Tryd.prog 56 #[.int .u8 (c.toNat : Int)] w fun e' w' => e' = .returned (.int .i64 (Fm.digit c)) ∧ w = w' := by
  have hc := UInt8.toNat_lt c
  go_enter Tryd.func56, Tryd.ntmps56
  go_wp2
  all_goals go_ret
  all_goals exact ⟨ret_int (by unfold Fm.digit; split <;> (try split) <;> omega), rfl⟩

theorem results4 {fn : Func} {t u v x : Tmp} (h : fn.results = #[.tmp t, .tmp u, .tmp v, .tmp x]) (tmps : Array Value) (P : Program) (w : World) :
    (results fn tmps).run P w = .ok (.tuple #[tmps.getD t undef, tmps.getD u undef, tmps.getD v undef, tmps.getD x undef]) w := by simp [results, h]
set_option maxHeartbeats 2000000 in
theorem shapeR_any (s : ByteArray) (w : World) :
    Calls Tryd.prog 20 #[.string s] w fun e w' => e = .returned (.tuple #[.string (str (Fm.shape s.data.toList).2.2), .int .i64 (Fm.shape s.data.toList).1, .int .i64 (Fm.shape s.data.toList).2.1, .bool (decide ((Fm.shape s.data.toList).1 ≠ 0))]) ∧ Below w.heap.size w w' := by
  rw [← ByteArray.toList_eq]
  go_enter Tryd.func20, Tryd.ntmps20
  go_wp2
  refine wp_loop_rounds 10 ?_
  iterate 9
    rw [rounds_succ]
    go_wp2
    rotate_left
  rw [rounds_succ]
  go_wp2
  refine wp_loop_rounds 10 ?_
  iterate 9
    rw [rounds_succ]
    go_wp2
    rotate_left
  rw [rounds_succ]
  go_wp2
  all_goals refine bodyPost_ret (results4 rfl _ _ _) rfl ?_
  all_goals refine ⟨?_, by first
    | exact (((((Below.refl _ _).alloc (Nat.le_refl _) _).alloc (by simp) _)).alloc (by simp; omega) _).alloc (by simp; omega) _
    | exact ((Below.refl _ _).alloc (Nat.le_refl _) _).alloc (by simp) _⟩
  all_goals (simp only [Fm.shape, Fm.tab, List.find?, BEq.comm (a := s.toList), *]; rfl)

theorem word_range : ∀ x ∈ Fm.tab, (x.2.1 = 1 ∧ 1 ≤ x.2.2.1 ∧ x.2.2.1 ≤ 9) ∨ (x.2.2.1 = 0 ∧ 2 ≤ x.2.1 ∧ x.2.1 ≤ 10) := by decide
theorem word_out {k o : Int} (h1 : ¬ (k = 1 ∧ 1 ≤ o ∧ o ≤ 9)) (h2 : ¬ (o = 0 ∧ 2 ≤ k ∧ k ≤ 10)) : Fm.word k o = [] := by
  by_cases h : Fm.word k o = []
  · exact h
  · obtain ⟨q, hq⟩ := Fm.word_mem h
    rcases word_range _ hq with h | h
    · exact absurd h h1
    · exact absurd h h2

set_option maxHeartbeats 4000000 in
theorem name_any (k a b n o p t m r : Int) (A9 A10 : Option Addr) (n9 c9 n10 c10 : Nat) (w : World) :
    Calls Tryd.prog 19 #[.agg #[.int .i64 k, .int .i64 a, .int .i64 b, .int .i64 n, .int .i64 o, .int .i64 p, .int .i64 t, .int .i64 m, .int .i64 r, .slice A9 n9 c9, .slice A10 n10 c10]] w
      fun e' w' => e' = .returned (.string (str (Fm.word k o))) ∧ Below w.heap.size w w' := by
  by_cases hk : (k == 1) = true
  · obtain rfl : k = 1 := by simpa using hk
    by_cases ho : 1 ≤ o ∧ o ≤ 9
    · rcases (by omega : o = 1 ∨ o = 2 ∨ o = 3 ∨ o = 4 ∨ o = 5 ∨ o = 6 ∨ o = 7 ∨ o = 8 ∨ o = 9) with rfl | rfl | rfl | rfl | rfl | rfl | rfl | rfl | rfl
      all_goals
        go_enter Tryd.func19, Tryd.ntmps19
        go_wp2
        go_ret
        exact ⟨rfl, ((Below.refl _ _).alloc (Nat.le_refl _) _).alloc (by simp) _⟩
    · have hw : Fm.word 1 o = [] := word_out (by omega) (by omega)
      rw [hw]
      clear hw
      have ho' : o < 1 ∨ 10 ≤ o := by omega
      clear ho hk
      rcases ho' with ho | ho
      all_goals
        go_enter Tryd.func19, Tryd.ntmps19
        go_wp2
        go_ret
        exact ⟨rfl, ((Below.refl _ _).alloc (Nat.le_refl _) _).alloc (by simp) _⟩
  · have hk' : (k == 1) = false := by simpa using hk
    have hk1 : k ≠ 1 := by simpa using hk
    clear hk
    by_cases ho : o = 0
    · subst ho
      by_cases hr : 2 ≤ k ∧ k ≤ 10
      · clear hk' hk1
        rcases (by omega : k = 2 ∨ k = 3 ∨ k = 4 ∨ k = 5 ∨ k = 6 ∨ k = 7 ∨ k = 8 ∨ k = 9 ∨ k = 10) with rfl | rfl | rfl | rfl | rfl | rfl | rfl | rfl | rfl
        all_goals
          go_enter Tryd.func19, Tryd.ntmps19
          go_wp2
          go_ret
          exact ⟨rfl, ((Below.refl _ _).alloc (Nat.le_refl _) _).alloc (by simp) _⟩
      · have hw : Fm.word k 0 = [] := word_out (by omega) (by omega)
        rw [hw]
        clear hw
        have hr' : k < 2 ∨ 10 < k := by omega
        clear hr hk1
        rcases hr' with hr | hr
        all_goals
          go_enter Tryd.func19, Tryd.ntmps19
          go_wp2
          go_ret
          exact ⟨rfl, ((Below.refl _ _).alloc (Nat.le_refl _) _).alloc (by simp) _⟩
    · have ho' : (o != 0) = true := by simpa using ho
      have hw : Fm.word k o = [] := word_out (by omega) (by omega)
      rw [hw]
      clear hw ho hk1
      go_enter Tryd.func19, Tryd.ntmps19
      go_wp2
      go_ret
      exact ⟨rfl, (Below.refl _ _).alloc (Nat.le_refl _) _⟩

theorem of_any (k a b n o p t m r : Int) (A9 A10 : Option Addr) (n9 c9 n10 c10 : Nat) (w : World) :
    Calls Tryd.prog 9 #[.agg #[.int .i64 k, .int .i64 a, .int .i64 b, .int .i64 n, .int .i64 o, .int .i64 p, .int .i64 t, .int .i64 m, .int .i64 r, .slice A9 n9 c9, .slice A10 n10 c10]] w fun e' w' => e' = .returned (.agg #[.int .i64 k, .int .i64 a, .int .i64 b, .int .i64 n, .int .i64 o, .int .i64 p, .int .i64 t, .int .i64 m, .int .i64 r, .slice A9 n9 c9, .slice A10 n10 c10]) ∧ Below w.heap.size w w' := by
  go_enter Tryd.func9, Tryd.ntmps9
  go_wp2
  exact bodyPost_ret (v := .agg #[.int .i64 k, .int .i64 a, .int .i64 b, .int .i64 n, .int .i64 o, .int .i64 p, .int .i64 t, .int .i64 m, .int .i64 r, .slice A9 n9 c9, .slice A10 n10 c10]) (by simp [results, Tryd.results9, go_sem]) rfl ⟨rfl, ((Below.refl _ _).alloc (Nat.le_refl _) _).alloc (by simp) _⟩
end Go.Proofs.YtjcbfbdbgplakaaDoor
