/-
  WALKS: part of the references, at each of its letters (by a program of this proof's own).
-/
import Derived.Test.YtjcbfbdbgplakaaDoorW3
import Derived.Test.YtjcbfbdbgplakaaDoorW3b
namespace Go.Proofs.YtjcbfbdbgplakaaDoor
open Go.RowKit
open Fm (Bs Mv)
theorem blk_cell {w : World} {g : Nat} {cs : Array Value} {t : TypeId} (h : w.heap[g]? = some (.cells cs t (0, 0))) (i : Nat) : w.cell? ⟨g, i, none⟩ = cs[i]? := cell_of_row w g i cs t (0, 0) h
theorem blk_frozen {w : World} {g : Nat} {cs : Array Value} {t : TypeId} (h : w.heap[g]? = some (.cells cs t (0, 0))) (i : Nat) : w.frozen? ⟨g, i, none⟩ = false := by simp [World.frozen?, h]
theorem blk_new (w : World) (o : Obj) : (w.alloc o).heap[w.heap.size]? = some o := heap_alloc_new w o
theorem blk_old {w : World} {g : Nat} (o : Obj) (h : g < w.heap.size) : (w.alloc o).heap[g]? = w.heap[g]? := Below.heap_alloc w o g h
theorem below_two {w w1 : World} {o1 o2 : Obj} (h : Below (w.heap.size + 1 + 1) ((w.alloc o1).alloc o2) w1) : Below w.heap.size w w1 := (((Below.refl _ _).alloc (Nat.le_refl _) _).alloc (by simp) _).trans (h.mono (by omega))
theorem set_far {w : World} {a p : Addr} (u : Value) (h : a.block ≠ p.block) : (w.setCell a u).cell? p = w.cell? p := World.cell?_setCell_other w a p u (fun e => h (by rw [e]))


set_option maxRecDepth 100000 in
set_option maxHeartbeats 1000000 in
theorem part112_any (k a b n o p t mm r : Int) (xd xe : Option Addr) (nd dc ne ec : Nat) (s : Bs) (w : World) :
    Calls Tryd.prog 25 #[.agg #[.int .i64 k, .int .i64 a, .int .i64 b, .int .i64 n, .int .i64 o, .int .i64 p, .int .i64 t, .int .i64 mm, .int .i64 r, .slice xd nd dc, .slice xe ne ec], .int .u8 112, .string (str s)] w fun e w' => e = .returned (.tuple #[.agg #[.int .i64 k, .int .i64 a, .int .i64 b, .int .i64 n, .int .i64 o, .int .i64 ((Fm.number s).getD 0), .int .i64 t, .int .i64 mm, .int .i64 r, .slice xd nd dc, .slice xe ne ec], .bool (Fm.number s).isSome]) ∧ Below w.heap.size w w' := by
  have c := number_any s
  cases hn : Fm.number s with
  | none =>
    rw [hn] at c
    have C := Lib.hid c
    clear c hn
    go_enter Tryd.func25, Tryd.ntmps25
    go_wp2_with fail
    refine (C.out _).mono ?_
    rintro e w' ⟨rfl, rfl⟩
    simp only [numV]
    go_wp2
    exact bodyPost_ret (v := .tuple #[.agg #[.int .i64 k, .int .i64 a, .int .i64 b, .int .i64 n, .int .i64 o, .int .i64 0, .int .i64 t, .int .i64 mm, .int .i64 r, .slice xd nd dc, .slice xe ne ec], .bool false]) (by simp [results, Tryd.results25, go_sem]) rfl ⟨rfl, ((Below.refl _ _).alloc (Nat.le_refl _) _).alloc (by simp) _⟩
  | some v =>
    rw [hn] at c
    have C := Lib.hid c
    clear c hn
    go_enter Tryd.func25, Tryd.ntmps25
    go_wp2_with fail
    refine (C.out _).mono ?_
    rintro e w' ⟨rfl, rfl⟩
    simp only [numV]
    go_wp2
    exact bodyPost_ret (v := .tuple #[.agg #[.int .i64 k, .int .i64 a, .int .i64 b, .int .i64 n, .int .i64 o, .int .i64 v, .int .i64 t, .int .i64 mm, .int .i64 r, .slice xd nd dc, .slice xe ne ec], .bool true]) (by simp [results, Tryd.results25, go_sem]) rfl ⟨rfl, ((Below.refl _ _).alloc (Nat.le_refl _) _).alloc (by simp) _⟩

set_option maxRecDepth 100000 in
set_option maxHeartbeats 1000000 in
theorem part97_any (k a b n o p t mm r : Int) (xd xe : Option Addr) (nd dc ne ec : Nat) (s : Bs) (w : World) :
    Calls Tryd.prog 25 #[.agg #[.int .i64 k, .int .i64 a, .int .i64 b, .int .i64 n, .int .i64 o, .int .i64 p, .int .i64 t, .int .i64 mm, .int .i64 r, .slice xd nd dc, .slice xe ne ec], .int .u8 97, .string (str s)] w fun e w' => e = .returned (.tuple #[.agg #[.int .i64 k, .int .i64 a, .int .i64 b, .int .i64 n, .int .i64 o, .int .i64 p, .int .i64 ((Fm.number s).getD 0), .int .i64 mm, .int .i64 r, .slice xd nd dc, .slice xe ne ec], .bool (Fm.number s).isSome]) ∧ Below w.heap.size w w' := by
  have c := number_any s
  cases hn : Fm.number s with
  | none =>
    rw [hn] at c
    have C := Lib.hid c
    clear c hn
    go_enter Tryd.func25, Tryd.ntmps25
    go_wp2_with fail
    refine (C.out _).mono ?_
    rintro e w' ⟨rfl, rfl⟩
    simp only [numV]
    go_wp2
    exact bodyPost_ret (v := .tuple #[.agg #[.int .i64 k, .int .i64 a, .int .i64 b, .int .i64 n, .int .i64 o, .int .i64 p, .int .i64 0, .int .i64 mm, .int .i64 r, .slice xd nd dc, .slice xe ne ec], .bool false]) (by simp [results, Tryd.results25, go_sem]) rfl ⟨rfl, ((Below.refl _ _).alloc (Nat.le_refl _) _).alloc (by simp) _⟩
  | some v =>
    rw [hn] at c
    have C := Lib.hid c
    clear c hn
    go_enter Tryd.func25, Tryd.ntmps25
    go_wp2_with fail
    refine (C.out _).mono ?_
    rintro e w' ⟨rfl, rfl⟩
    simp only [numV]
    go_wp2
    exact bodyPost_ret (v := .tuple #[.agg #[.int .i64 k, .int .i64 a, .int .i64 b, .int .i64 n, .int .i64 o, .int .i64 p, .int .i64 v, .int .i64 mm, .int .i64 r, .slice xd nd dc, .slice xe ne ec], .bool true]) (by simp [results, Tryd.results25, go_sem]) rfl ⟨rfl, ((Below.refl _ _).alloc (Nat.le_refl _) _).alloc (by simp) _⟩

set_option maxRecDepth 100000 in
set_option maxHeartbeats 1000000 in
theorem part110_any (k a b n o p t mm r : Int) (xd xe : Option Addr) (nd dc ne ec : Nat) (s : Bs) (w : World) :
    Calls Tryd.prog 25 #[.agg #[.int .i64 k, .int .i64 a, .int .i64 b, .int .i64 n, .int .i64 o, .int .i64 p, .int .i64 t, .int .i64 mm, .int .i64 r, .slice xd nd dc, .slice xe ne ec], .int .u8 110, .string (str s)] w fun e w' => e = .returned (.tuple #[.agg #[.int .i64 k, .int .i64 a, .int .i64 b, .int .i64 n, .int .i64 o, .int .i64 p, .int .i64 t, .int .i64 ((Fm.number s).getD 0), .int .i64 r, .slice xd nd dc, .slice xe ne ec], .bool (Fm.number s).isSome]) ∧ Below w.heap.size w w' := by
  have c := number_any s
  cases hn : Fm.number s with
  | none =>
    rw [hn] at c
    have C := Lib.hid c
    clear c hn
    go_enter Tryd.func25, Tryd.ntmps25
    go_wp2_with fail
    refine (C.out _).mono ?_
    rintro e w' ⟨rfl, rfl⟩
    simp only [numV]
    go_wp2
    exact bodyPost_ret (v := .tuple #[.agg #[.int .i64 k, .int .i64 a, .int .i64 b, .int .i64 n, .int .i64 o, .int .i64 p, .int .i64 t, .int .i64 0, .int .i64 r, .slice xd nd dc, .slice xe ne ec], .bool false]) (by simp [results, Tryd.results25, go_sem]) rfl ⟨rfl, ((Below.refl _ _).alloc (Nat.le_refl _) _).alloc (by simp) _⟩
  | some v =>
    rw [hn] at c
    have C := Lib.hid c
    clear c hn
    go_enter Tryd.func25, Tryd.ntmps25
    go_wp2_with fail
    refine (C.out _).mono ?_
    rintro e w' ⟨rfl, rfl⟩
    simp only [numV]
    go_wp2
    exact bodyPost_ret (v := .tuple #[.agg #[.int .i64 k, .int .i64 a, .int .i64 b, .int .i64 n, .int .i64 o, .int .i64 p, .int .i64 t, .int .i64 v, .int .i64 r, .slice xd nd dc, .slice xe ne ec], .bool true]) (by simp [results, Tryd.results25, go_sem]) rfl ⟨rfl, ((Below.refl _ _).alloc (Nat.le_refl _) _).alloc (by simp) _⟩

set_option maxRecDepth 100000 in
set_option maxHeartbeats 1000000 in
theorem part114_any (k a b n o p t mm r : Int) (xd xe : Option Addr) (nd dc ne ec : Nat) (s : Bs) (w : World) :
    Calls Tryd.prog 25 #[.agg #[.int .i64 k, .int .i64 a, .int .i64 b, .int .i64 n, .int .i64 o, .int .i64 p, .int .i64 t, .int .i64 mm, .int .i64 r, .slice xd nd dc, .slice xe ne ec], .int .u8 114, .string (str s)] w fun e w' => e = .returned (.tuple #[.agg #[.int .i64 k, .int .i64 a, .int .i64 b, .int .i64 n, .int .i64 o, .int .i64 p, .int .i64 t, .int .i64 mm, .int .i64 ((Fm.number s).getD 0), .slice xd nd dc, .slice xe ne ec], .bool (Fm.number s).isSome]) ∧ Below w.heap.size w w' := by
  have c := number_any s
  cases hn : Fm.number s with
  | none =>
    rw [hn] at c
    have C := Lib.hid c
    clear c hn
    go_enter Tryd.func25, Tryd.ntmps25
    go_wp2_with fail
    refine (C.out _).mono ?_
    rintro e w' ⟨rfl, rfl⟩
    simp only [numV]
    go_wp2
    exact bodyPost_ret (v := .tuple #[.agg #[.int .i64 k, .int .i64 a, .int .i64 b, .int .i64 n, .int .i64 o, .int .i64 p, .int .i64 t, .int .i64 mm, .int .i64 0, .slice xd nd dc, .slice xe ne ec], .bool false]) (by simp [results, Tryd.results25, go_sem]) rfl ⟨rfl, ((Below.refl _ _).alloc (Nat.le_refl _) _).alloc (by simp) _⟩
  | some v =>
    rw [hn] at c
    have C := Lib.hid c
    clear c hn
    go_enter Tryd.func25, Tryd.ntmps25
    go_wp2_with fail
    refine (C.out _).mono ?_
    rintro e w' ⟨rfl, rfl⟩
    simp only [numV]
    go_wp2
    exact bodyPost_ret (v := .tuple #[.agg #[.int .i64 k, .int .i64 a, .int .i64 b, .int .i64 n, .int .i64 o, .int .i64 p, .int .i64 t, .int .i64 mm, .int .i64 v, .slice xd nd dc, .slice xe ne ec], .bool true]) (by simp [results, Tryd.results25, go_sem]) rfl ⟨rfl, ((Below.refl _ _).alloc (Nat.le_refl _) _).alloc (by simp) _⟩

set_option maxRecDepth 100000 in
set_option maxHeartbeats 1000000 in
theorem part65_any (k a b n o p t mm r : Int) (xd xe : Option Addr) (nd dc ne ec : Nat) (s : Bs) (w : World) :
    Calls Tryd.prog 25 #[.agg #[.int .i64 k, .int .i64 a, .int .i64 b, .int .i64 n, .int .i64 o, .int .i64 p, .int .i64 t, .int .i64 mm, .int .i64 r, .slice xd nd dc, .slice xe ne ec], .int .u8 65, .string (str s)] w fun e w' => e = .returned (.tuple #[.agg #[.int .i64 k, .int .i64 ((Fm.number s).getD 0), .int .i64 b, .int .i64 n, .int .i64 o, .int .i64 p, .int .i64 t, .int .i64 mm, .int .i64 r, .slice xd nd dc, .slice xe ne ec], .bool (Fm.number s).isSome]) ∧ Below w.heap.size w w' := by
  have c := number_any s
  cases hn : Fm.number s with
  | none =>
    rw [hn] at c
    have C := Lib.hid c
    clear c hn
    go_enter Tryd.func25, Tryd.ntmps25
    go_wp2_with fail
    refine (C.out _).mono ?_
    rintro e w' ⟨rfl, rfl⟩
    simp only [numV]
    go_wp2
    exact bodyPost_ret (v := .tuple #[.agg #[.int .i64 k, .int .i64 0, .int .i64 b, .int .i64 n, .int .i64 o, .int .i64 p, .int .i64 t, .int .i64 mm, .int .i64 r, .slice xd nd dc, .slice xe ne ec], .bool false]) (by simp [results, Tryd.results25, go_sem]) rfl ⟨rfl, ((Below.refl _ _).alloc (Nat.le_refl _) _).alloc (by simp) _⟩
  | some v =>
    rw [hn] at c
    have C := Lib.hid c
    clear c hn
    go_enter Tryd.func25, Tryd.ntmps25
    go_wp2_with fail
    refine (C.out _).mono ?_
    rintro e w' ⟨rfl, rfl⟩
    simp only [numV]
    go_wp2
    exact bodyPost_ret (v := .tuple #[.agg #[.int .i64 k, .int .i64 v, .int .i64 b, .int .i64 n, .int .i64 o, .int .i64 p, .int .i64 t, .int .i64 mm, .int .i64 r, .slice xd nd dc, .slice xe ne ec], .bool true]) (by simp [results, Tryd.results25, go_sem]) rfl ⟨rfl, ((Below.refl _ _).alloc (Nat.le_refl _) _).alloc (by simp) _⟩

set_option maxRecDepth 100000 in
set_option maxHeartbeats 1000000 in
theorem part66_any (k a b n o p t mm r : Int) (xd xe : Option Addr) (nd dc ne ec : Nat) (s : Bs) (w : World) :
    Calls Tryd.prog 25 #[.agg #[.int .i64 k, .int .i64 a, .int .i64 b, .int .i64 n, .int .i64 o, .int .i64 p, .int .i64 t, .int .i64 mm, .int .i64 r, .slice xd nd dc, .slice xe ne ec], .int .u8 66, .string (str s)] w fun e w' => e = .returned (.tuple #[.agg #[.int .i64 k, .int .i64 a, .int .i64 ((Fm.number s).getD 0), .int .i64 n, .int .i64 o, .int .i64 p, .int .i64 t, .int .i64 mm, .int .i64 r, .slice xd nd dc, .slice xe ne ec], .bool (Fm.number s).isSome]) ∧ Below w.heap.size w w' := by
  have c := number_any s
  cases hn : Fm.number s with
  | none =>
    rw [hn] at c
    have C := Lib.hid c
    clear c hn
    go_enter Tryd.func25, Tryd.ntmps25
    go_wp2_with fail
    refine (C.out _).mono ?_
    rintro e w' ⟨rfl, rfl⟩
    simp only [numV]
    go_wp2
    exact bodyPost_ret (v := .tuple #[.agg #[.int .i64 k, .int .i64 a, .int .i64 0, .int .i64 n, .int .i64 o, .int .i64 p, .int .i64 t, .int .i64 mm, .int .i64 r, .slice xd nd dc, .slice xe ne ec], .bool false]) (by simp [results, Tryd.results25, go_sem]) rfl ⟨rfl, ((Below.refl _ _).alloc (Nat.le_refl _) _).alloc (by simp) _⟩
  | some v =>
    rw [hn] at c
    have C := Lib.hid c
    clear c hn
    go_enter Tryd.func25, Tryd.ntmps25
    go_wp2_with fail
    refine (C.out _).mono ?_
    rintro e w' ⟨rfl, rfl⟩
    simp only [numV]
    go_wp2
    exact bodyPost_ret (v := .tuple #[.agg #[.int .i64 k, .int .i64 a, .int .i64 v, .int .i64 n, .int .i64 o, .int .i64 p, .int .i64 t, .int .i64 mm, .int .i64 r, .slice xd nd dc, .slice xe ne ec], .bool true]) (by simp [results, Tryd.results25, go_sem]) rfl ⟨rfl, ((Below.refl _ _).alloc (Nat.le_refl _) _).alloc (by simp) _⟩

set_option maxRecDepth 100000 in
set_option maxHeartbeats 1000000 in
theorem part78_any (k a b n o p t mm r : Int) (xd xe : Option Addr) (nd dc ne ec : Nat) (s : Bs) (w : World) :
    Calls Tryd.prog 25 #[.agg #[.int .i64 k, .int .i64 a, .int .i64 b, .int .i64 n, .int .i64 o, .int .i64 p, .int .i64 t, .int .i64 mm, .int .i64 r, .slice xd nd dc, .slice xe ne ec], .int .u8 78, .string (str s)] w fun e w' => e = .returned (.tuple #[.agg #[.int .i64 k, .int .i64 a, .int .i64 b, .int .i64 ((Fm.number s).getD 0), .int .i64 o, .int .i64 p, .int .i64 t, .int .i64 mm, .int .i64 r, .slice xd nd dc, .slice xe ne ec], .bool (Fm.number s).isSome]) ∧ Below w.heap.size w w' := by
  have c := number_any s
  cases hn : Fm.number s with
  | none =>
    rw [hn] at c
    have C := Lib.hid c
    clear c hn
    go_enter Tryd.func25, Tryd.ntmps25
    go_wp2_with fail
    refine (C.out _).mono ?_
    rintro e w' ⟨rfl, rfl⟩
    simp only [numV]
    go_wp2
    exact bodyPost_ret (v := .tuple #[.agg #[.int .i64 k, .int .i64 a, .int .i64 b, .int .i64 0, .int .i64 o, .int .i64 p, .int .i64 t, .int .i64 mm, .int .i64 r, .slice xd nd dc, .slice xe ne ec], .bool false]) (by simp [results, Tryd.results25, go_sem]) rfl ⟨rfl, ((Below.refl _ _).alloc (Nat.le_refl _) _).alloc (by simp) _⟩
  | some v =>
    rw [hn] at c
    have C := Lib.hid c
    clear c hn
    go_enter Tryd.func25, Tryd.ntmps25
    go_wp2_with fail
    refine (C.out _).mono ?_
    rintro e w' ⟨rfl, rfl⟩
    simp only [numV]
    go_wp2
    exact bodyPost_ret (v := .tuple #[.agg #[.int .i64 k, .int .i64 a, .int .i64 b, .int .i64 v, .int .i64 o, .int .i64 p, .int .i64 t, .int .i64 mm, .int .i64 r, .slice xd nd dc, .slice xe ne ec], .bool true]) (by simp [results, Tryd.results25, go_sem]) rfl ⟨rfl, ((Below.refl _ _).alloc (Nat.le_refl _) _).alloc (by simp) _⟩

def HexPost2 (k a b n o p t mm r : Int) (xe : Option Addr) (ne ec : Nat) (s : Bs) (w : World) (e : Ending) (w' : World) : Prop :=
  (Fm.hex s = none ∧ e = .returned (.tuple #[.agg #[.int .i64 k, .int .i64 a, .int .i64 b, .int .i64 n, .int .i64 o, .int .i64 p, .int .i64 t, .int .i64 mm, .int .i64 r, .slice none 0 0, .slice xe ne ec], .bool false]) ∧ Below w.heap.size w w') ∨
  ∃ bb A c', Fm.hex s = some bb ∧ e = .returned (.tuple #[.agg #[.int .i64 k, .int .i64 a, .int .i64 b, .int .i64 n, .int .i64 o, .int .i64 p, .int .i64 t, .int .i64 mm, .int .i64 r, .slice A bb.length c', .slice xe ne ec], .bool true]) ∧ Bytes w' w'.heap.size A bb ∧ Fr w.heap.size A ∧ Below w.heap.size w w'

set_option maxRecDepth 100000 in
set_option maxHeartbeats 2000000 in
theorem part120_any (k a b n o p t mm r : Int) (xd xe : Option Addr) (nd dc ne ec : Nat) (s : Bs) (w : World) (hl : s.length ≤ 1048576) :
    Calls Tryd.prog 25 #[.agg #[.int .i64 k, .int .i64 a, .int .i64 b, .int .i64 n, .int .i64 o, .int .i64 p, .int .i64 t, .int .i64 mm, .int .i64 r, .slice xd nd dc, .slice xe ne ec], .int .u8 120, .string (str s)] w (HexPost2 k a b n o p t mm r xe ne ec s w) := by
  have CH := Lib.hid hexR_any
  go_enter Tryd.func25, Tryd.ntmps25
  go_wp2_with fail
  refine (CH.out s _ hl).mono ?_
  intro e' w1 hpost
  have hb1 : Below (w.heap.size + 1 + 1) ((w.alloc (.cells #[.int .i64 k, .int .i64 a, .int .i64 b, .int .i64 n, .int .i64 o, .int .i64 p, .int .i64 t, .int .i64 mm, .int .i64 r, .slice xd nd dc, .slice xe ne ec] 37)).alloc (.cells #[.int .i64 0, .int .i64 0, .int .i64 0, .int .i64 0, .int .i64 0, .int .i64 0, .int .i64 0, .int .i64 0, .int .i64 0, .slice none 0 0, .slice none 0 0] 37)) w1 := by rcases hpost with ⟨_, _, h⟩ | ⟨_, _, _, _, _, _, _, h⟩ <;> simpa using h
  have hbA : w1.heap[w.heap.size]? = some (.cells #[.int .i64 k, .int .i64 a, .int .i64 b, .int .i64 n, .int .i64 o, .int .i64 p, .int .i64 t, .int .i64 mm, .int .i64 r, .slice xd nd dc, .slice xe ne ec] 37 (0, 0)) := by
    rw [hb1.block _ (by omega), blk_old _ (by simp)]
    exact blk_new _ _
  have hbZ : w1.heap[w.heap.size + 1]? = some (.cells #[.int .i64 0, .int .i64 0, .int .i64 0, .int .i64 0, .int .i64 0, .int .i64 0, .int .i64 0, .int .i64 0, .int .i64 0, .slice none 0 0, .slice none 0 0] 37 (0, 0)) := by
    rw [hb1.block _ (by omega)]
    have := blk_new (w.alloc (.cells #[.int .i64 k, .int .i64 a, .int .i64 b, .int .i64 n, .int .i64 o, .int .i64 p, .int .i64 t, .int .i64 mm, .int .i64 r, .slice xd nd dc, .slice xe ne ec] 37)) (.cells #[.int .i64 0, .int .i64 0, .int .i64 0, .int .i64 0, .int .i64 0, .int .i64 0, .int .i64 0, .int .i64 0, .int .i64 0, .slice none 0 0, .slice none 0 0] 37)
    simpa using this
  have cA := blk_cell hbA
  have fA := blk_frozen hbA
  have cZ := blk_cell hbZ
  have fZ := blk_frozen hbZ
  have hB0 := hb1.size
  simp at hB0
  have HB := Lib.hid hb1
  clear hbA hbZ hb1
  rcases hpost with ⟨hn, rfl, _⟩ | ⟨bb, A, c', hs, rfl, hbs, hfr, _⟩
  · have HN := Lib.hid hn
    clear hn
    go_wp2
    refine bodyPost_ret (v := .tuple #[.agg #[.int .i64 k, .int .i64 a, .int .i64 b, .int .i64 n, .int .i64 o, .int .i64 p, .int .i64 t, .int .i64 mm, .int .i64 r, .slice none 0 0, .slice xe ne ec], .bool false]) (by simp [results, Tryd.results25, go_sem, cZ]) rfl (.inl ⟨HN.out, rfl, ?_⟩)
    have hbw := below_two HB.out
    iterate 12 refine Below.setCell ?_ (by simp) _
    exact hbw
  · have HS := Lib.hid hs
    have HX := Lib.hid hbs
    have HF := Lib.hid hfr
    clear hs hbs hfr
    go_wp2
    refine bodyPost_ret (v := .tuple #[.agg #[.int .i64 k, .int .i64 a, .int .i64 b, .int .i64 n, .int .i64 o, .int .i64 p, .int .i64 t, .int .i64 mm, .int .i64 r, .slice A bb.length c', .slice xe ne ec], .bool true]) (by simp [results, Tryd.results25, go_sem, cZ]) rfl (.inr ⟨bb, A, c', HS.out, rfl, ?_, ?_, ?_⟩)
    · have hfr := HF.out
      simp only [World.size_alloc] at hfr
      refine HX.out.fresh hfr (fun q hq _ => ?_) (by simp [World.setCell])
      iterate 12 rw [set_far _ (by simp; omega)]
    · intro ad h
      have := HF.out ad h
      simp only [World.size_alloc] at this
      omega
    · have hbw := below_two HB.out
      iterate 12 refine Below.setCell ?_ (by simp) _
      exact hbw

def KeepPost2 (k a b n o p t mm r : Int) (xd : Option Addr) (nd dc : Nat) (s : Bs) (w : World) (e : Ending) (w' : World) : Prop :=
  (Fm.keep s = none ∧ e = .returned (.tuple #[.agg #[.int .i64 k, .int .i64 a, .int .i64 b, .int .i64 n, .int .i64 o, .int .i64 p, .int .i64 t, .int .i64 mm, .int .i64 r, .slice xd nd dc, .slice none 0 0], .bool false]) ∧ Below w.heap.size w w') ∨
  ∃ bb A c', Fm.keep s = some bb ∧ e = .returned (.tuple #[.agg #[.int .i64 k, .int .i64 a, .int .i64 b, .int .i64 n, .int .i64 o, .int .i64 p, .int .i64 t, .int .i64 mm, .int .i64 r, .slice xd nd dc, .slice A bb.length c'], .bool true]) ∧ Bools w' w'.heap.size A bb ∧ Fr w.heap.size A ∧ Below w.heap.size w w'

set_option maxRecDepth 100000 in
set_option maxHeartbeats 2000000 in
theorem part107_any (k a b n o p t mm r : Int) (xd xe : Option Addr) (nd dc ne ec : Nat) (s : Bs) (w : World) (hl : s.length ≤ 1048576) :
    Calls Tryd.prog 25 #[.agg #[.int .i64 k, .int .i64 a, .int .i64 b, .int .i64 n, .int .i64 o, .int .i64 p, .int .i64 t, .int .i64 mm, .int .i64 r, .slice xd nd dc, .slice xe ne ec], .int .u8 107, .string (str s)] w (KeepPost2 k a b n o p t mm r xd nd dc s w) := by
  have CH := Lib.hid keepR_any
  go_enter Tryd.func25, Tryd.ntmps25
  go_wp2_with fail
  refine (CH.out s _ hl).mono ?_
  intro e' w1 hpost
  have hb1 : Below (w.heap.size + 1 + 1) ((w.alloc (.cells #[.int .i64 k, .int .i64 a, .int .i64 b, .int .i64 n, .int .i64 o, .int .i64 p, .int .i64 t, .int .i64 mm, .int .i64 r, .slice xd nd dc, .slice xe ne ec] 37)).alloc (.cells #[.int .i64 0, .int .i64 0, .int .i64 0, .int .i64 0, .int .i64 0, .int .i64 0, .int .i64 0, .int .i64 0, .int .i64 0, .slice none 0 0, .slice none 0 0] 37)) w1 := by rcases hpost with ⟨_, _, h⟩ | ⟨_, _, _, _, _, _, _, h⟩ <;> simpa using h
  have hbA : w1.heap[w.heap.size]? = some (.cells #[.int .i64 k, .int .i64 a, .int .i64 b, .int .i64 n, .int .i64 o, .int .i64 p, .int .i64 t, .int .i64 mm, .int .i64 r, .slice xd nd dc, .slice xe ne ec] 37 (0, 0)) := by
    rw [hb1.block _ (by omega), blk_old _ (by simp)]
    exact blk_new _ _
  have hbZ : w1.heap[w.heap.size + 1]? = some (.cells #[.int .i64 0, .int .i64 0, .int .i64 0, .int .i64 0, .int .i64 0, .int .i64 0, .int .i64 0, .int .i64 0, .int .i64 0, .slice none 0 0, .slice none 0 0] 37 (0, 0)) := by
    rw [hb1.block _ (by omega)]
    have := blk_new (w.alloc (.cells #[.int .i64 k, .int .i64 a, .int .i64 b, .int .i64 n, .int .i64 o, .int .i64 p, .int .i64 t, .int .i64 mm, .int .i64 r, .slice xd nd dc, .slice xe ne ec] 37)) (.cells #[.int .i64 0, .int .i64 0, .int .i64 0, .int .i64 0, .int .i64 0, .int .i64 0, .int .i64 0, .int .i64 0, .int .i64 0, .slice none 0 0, .slice none 0 0] 37)
    simpa using this
  have cA := blk_cell hbA
  have fA := blk_frozen hbA
  have cZ := blk_cell hbZ
  have fZ := blk_frozen hbZ
  have hB0 := hb1.size
  simp at hB0
  have HB := Lib.hid hb1
  clear hbA hbZ hb1
  rcases hpost with ⟨hn, rfl, _⟩ | ⟨bb, A, c', hs, rfl, hbs, hfr, _⟩
  · have HN := Lib.hid hn
    clear hn
    go_wp2
    refine bodyPost_ret (v := .tuple #[.agg #[.int .i64 k, .int .i64 a, .int .i64 b, .int .i64 n, .int .i64 o, .int .i64 p, .int .i64 t, .int .i64 mm, .int .i64 r, .slice xd nd dc, .slice none 0 0], .bool false]) (by simp [results, Tryd.results25, go_sem, cZ]) rfl (.inl ⟨HN.out, rfl, ?_⟩)
    have hbw := below_two HB.out
    iterate 12 refine Below.setCell ?_ (by simp) _
    exact hbw
  · have HS := Lib.hid hs
    have HX := Lib.hid hbs
    have HF := Lib.hid hfr
    clear hs hbs hfr
    go_wp2
    refine bodyPost_ret (v := .tuple #[.agg #[.int .i64 k, .int .i64 a, .int .i64 b, .int .i64 n, .int .i64 o, .int .i64 p, .int .i64 t, .int .i64 mm, .int .i64 r, .slice xd nd dc, .slice A bb.length c'], .bool true]) (by simp [results, Tryd.results25, go_sem, cZ]) rfl (.inr ⟨bb, A, c', HS.out, rfl, ?_, ?_, ?_⟩)
    · have hfr := HF.out
      simp only [World.size_alloc] at hfr
      refine HX.out.fresh hfr (fun q hq _ => ?_) (by simp [World.setCell])
      iterate 12 rw [set_far _ (by simp; omega)]
    · intro ad h
      have := HF.out ad h
      simp only [World.size_alloc] at this
      omega
    · have hbw := below_two HB.out
      iterate 12 refine Below.setCell ?_ (by simp) _
      exact hbw
end Go.Proofs.YtjcbfbdbgplakaaDoor
