/-
  WORDS FOR THE MEMORY OF FarmTexts' WALKS: what the world must bear (the listed variables), slices that read as lists, moves in memory; each is kept by whatever leaves alone what lay there.
-/
import Derived.WalkKit
import Derived.WalkSmall
import Derived.ChangeAgain
import Derived.Deep.AppendLies
import Derived.Lib.LaidTab
import Derived.Test.YtjcbfbdbgplakaaDoorShelf
import Derived.Test.YtjcbfbdbgplakaaDoorFm
namespace Go.Proofs.YtjcbfbdbgplakaaDoor
open Go.RowKit
open Fm (Bs Mv)

/-! ### the world -/

structure Env (w : World) : Prop where
  sh : w.ShapedOpen Tryd.prog
  pow : Lib.TabIs Tryd.prog w "internal/strconv.uint64pow10" .u64 Lib.pow10Tab
  sp : Lib.TabIs Tryd.prog w "strings.asciiSpace" .u8 Lib.asciiSpaceTab
  syn : ∃ tp p, w.var? Tryd.prog "strconv.ErrSyntax" = some #[.iface tp p]
  rng : ∃ tp p, w.var? Tryd.prog "strconv.ErrRange" = some #[.iface tp p]

theorem var_keep {P : Program} {w w' : World} {n : String} {cs : Array Value} (h : w.var? P n = some cs) (hb : Below w.heap.size w w') : w'.var? P n = some cs := by
  unfold World.var? at h ⊢
  cases hg : P.globalNamed n with
  | none => rw [hg] at h; cases h
  | some g =>
    rw [hg] at h
    simp only [Option.bind_some] at h ⊢
    rw [hb.block g]
    · exact h
    · rcases Nat.lt_or_ge g w.heap.size with h' | h'
      · exact h'
      · rw [Array.getElem?_eq_none h'] at h; cases h

theorem Env.below {w w' : World} (h : Env w) (hb : Below w.heap.size w w') : Env w' where
  sh := h.sh.keptBut (hb.frame (fun _ => False)) (fun _ hp => hp.elim)
  pow := var_keep h.pow hb
  sp := var_keep h.sp hb
  syn := let ⟨a, b, c⟩ := h.syn; ⟨a, b, var_keep c hb⟩
  rng := let ⟨a, b, c⟩ := h.rng; ⟨a, b, var_keep c hb⟩

/-! ### strings -/

/-- The string of a list of bytes. -/
def str (l : Bs) : ByteArray := ⟨l.toArray⟩
theorem str_toList (l : Bs) : (str l).toList = l := by rw [ByteArray.toList_eq]; simp [str]
theorem str_data (l : Bs) : (str l).data.toList = l := by simp [str]
theorem str_size (l : Bs) : (str l).size = l.length := by simp [str, ByteArray.size]
theorem str_of (s : ByteArray) : str s.data.toList = s := by cases s; simp [str]
theorem str_append (a b : Bs) : str a ++ str b = str (a ++ b) := by
  apply ByteArray.ext
  simp [str, ByteArray.data_append]

/-! ### slices that read as lists -/

theorem add_block (a : Addr) (n : Nat) : (a.add n).block = a.block := by unfold Addr.add; split <;> rfl
theorem add_add' (a : Addr) (i j : Nat) : (a.add i).add j = a.add (i + j) := by
  unfold Addr.add
  by_cases hi : i = 0 <;> by_cases hj : j = 0 <;> simp [hi, hj, Nat.add_assoc]

/-- The slice at A of n elements, size cells each, holds the cells xs, all below block B. -/
def Rd (w : World) (B size : Nat) (A : Option Addr) (n : Nat) (xs : List Value) : Prop :=
  xs.length = n * size ∧ (0 < n → ∃ ad, A = some ad ∧ ad.block < B ∧ ∀ j u, xs[j]? = some u → w.cell? (ad.add j) = some u)

section
variable {w w' : World} {B B' size n : Nat} {A : Option Addr} {xs : List Value}
theorem Rd.nil : Rd w B size A 0 [] := ⟨by simp, fun h => absurd h (by omega)⟩
theorem Rd.keep (h : Rd w B size A n xs) (hk : ∀ p : Addr, p.block < B → w'.cell? p = w.cell? p) (hB : B ≤ B') : Rd w' B' size A n xs :=
  ⟨h.1, fun hn => by
    obtain ⟨ad, e, hb, hc⟩ := h.2 hn
    exact ⟨ad, e, by omega, fun j u hu => (hk _ (by rw [add_block]; exact hb)).trans (hc j u hu)⟩⟩
theorem Rd.below (h : Rd w B size A n xs) (hb : Below B w w') (hB : B ≤ B') : Rd w' B' size A n xs := h.keep (fun _ hp => hb.cell hp) hB
theorem Rd.up (h : Rd w B size A n xs) (hB : B ≤ B') : Rd w B' size A n xs := h.keep (fun _ _ => rfl) hB
/-- Element i of one-cell elements. -/
theorem Rd.at_ {i : Nat} (h : Rd w B 1 A n xs) (hi : i < n) : ∃ ad u, A = some ad ∧ ad.block < B ∧ xs[i]? = some u ∧ w.cell? (ad.add i) = some u := by
  obtain ⟨ad, e, hb, hc⟩ := h.2 (by omega)
  have hl : i < xs.length := by have := h.1; omega
  exact ⟨ad, xs[i], e, hb, List.getElem?_eq_getElem hl, hc i _ (List.getElem?_eq_getElem hl)⟩
theorem Rd.of_own {base : Nat} {e : TypeId} {c : Nat} (h : w.ownsRow base e size (.slice A n c) n xs) : Rd w w.heap.size size A n xs := by
  refine ⟨h.1, fun hn => ?_⟩
  obtain ⟨g, cap, hv, _, hlt⟩ := h.form hn
  have hA : A = some ⟨g, 0, none⟩ := by injection hv
  subst hA
  exact ⟨_, rfl, hlt, h.cells (g := g) rfl⟩
end

/-- Bytes, bools as cells. -/
def u8s (l : Bs) : List Value := l.map fun b => .int .u8 (b.toNat : Int)
def bls (l : List Bool) : List Value := l.map fun b => .bool b
theorem u8s_len (l : Bs) : (u8s l).length = l.length := by simp [u8s]
theorem bls_len (l : List Bool) : (bls l).length = l.length := by simp [bls]
theorem u8s_at (l : Bs) (i : Nat) (h : i < l.length) : (u8s l)[i]? = some (.int .u8 (l[i].toNat : Int)) := by simp [u8s, h]
theorem bls_at (l : List Bool) (i : Nat) (h : i < l.length) : (bls l)[i]? = some (.bool l[i]) := by simp [bls, h]

abbrev Bytes (w : World) (B : Nat) (A : Option Addr) (l : Bs) : Prop := Rd w B 1 A l.length (u8s l)
abbrev Bools (w : World) (B : Nat) (A : Option Addr) (l : List Bool) : Prop := Rd w B 1 A l.length (bls l)

/-! ### moves in memory -/

/-- Where a move's two slices lie. -/
structure At where
  d : Option Addr
  dc : Nat
  e : Option Addr
  ec : Nat

/-- A move's cells. -/
def cells (m : Mv) (x : At) : List Value :=
  [.int .i64 m.k, .int .i64 m.a, .int .i64 m.b, .int .i64 m.n, .int .i64 m.o, .int .i64 m.p, .int .i64 m.t, .int .i64 m.m, .int .i64 m.r, .slice x.d m.d.length x.dc, .slice x.e m.e.length x.ec]

structure Mem (w : World) (B : Nat) (m : Mv) (x : At) : Prop where
  d : Bytes w B x.d m.d
  e : Bools w B x.e m.e

theorem Mem.keep {w w' : World} {B B' : Nat} {m : Mv} {x : At} (h : Mem w B m x) (hk : ∀ p : Addr, p.block < B → w'.cell? p = w.cell? p) (hB : B ≤ B') : Mem w' B' m x := ⟨h.d.keep hk hB, h.e.keep hk hB⟩
theorem Mem.below {w w' : World} {B B' : Nat} {m : Mv} {x : At} (h : Mem w B m x) (hb : Below B w w') (hB : B ≤ B') : Mem w' B' m x := ⟨h.d.below hb hB, h.e.below hb hB⟩
theorem Mem.up {w : World} {B B' : Nat} {m : Mv} {x : At} (h : Mem w B m x) (hB : B ≤ B') : Mem w B' m x := h.keep (fun _ _ => rfl) hB

/-- A slice of moves. -/
def Moves (w : World) (B : Nat) (A : Option Addr) (n : Nat) (ms : List Mv) : Prop :=
  ∃ xs : List At, xs.length = ms.length ∧ n = ms.length ∧ Rd w B 11 A n ((ms.zip xs).flatMap fun y => cells y.1 y.2) ∧ ∀ y ∈ ms.zip xs, Mem w B y.1 y.2

theorem Moves.keep {w w' : World} {B B' n : Nat} {A : Option Addr} {ms : List Mv} (h : Moves w B A n ms) (hk : ∀ p : Addr, p.block < B → w'.cell? p = w.cell? p) (hB : B ≤ B') : Moves w' B' A n ms := by
  obtain ⟨xs, h1, h2, h3, h4⟩ := h
  exact ⟨xs, h1, h2, h3.keep hk hB, fun y hy => (h4 y hy).keep hk hB⟩
theorem Moves.below {w w' : World} {B B' n : Nat} {A : Option Addr} {ms : List Mv} (h : Moves w B A n ms) (hb : Below B w w') (hB : B ≤ B') : Moves w' B' A n ms := h.keep (fun _ hp => hb.cell hp) hB

theorem flat_at {α : Type} (k : Nat) (f : α → List Value) (hf : ∀ x, (f x).length = k) : ∀ (l : List α) (i j : Nat) (x : α), l[i]? = some x → j < k → (l.flatMap f)[i * k + j]? = (f x)[j]?
  | [], i, j, x, h, _ => by simp at h
  | y :: l, 0, j, x, h, hj => by
    simp only [List.getElem?_cons_zero, Option.some.injEq] at h
    subst h
    rw [List.flatMap_cons, List.getElem?_append_left (by rw [hf]; omega)]
    simp
  | y :: l, i + 1, j, x, h, hj => by
    rw [List.flatMap_cons, List.getElem?_append_right (by rw [hf, Nat.succ_mul]; omega), hf]
    have : (i + 1) * k + j - k = i * k + j := by rw [Nat.succ_mul]; omega
    rw [this]
    exact flat_at k f hf l i j x (by simpa using h) hj

theorem cells_len (m : Mv) (x : At) : (cells m x).length = 11 := rfl

/-- Move i of a slice of moves. -/
theorem Moves.at_ {w : World} {B n i : Nat} {A : Option Addr} {ms : List Mv} (h : Moves w B A n ms) (hi : i < ms.length) :
    ∃ ad x, A = some ad ∧ ad.block < B ∧ Mem w B ms[i] x ∧ ∀ j u, (cells ms[i] x)[j]? = some u → w.cell? (ad.add (i * 11 + j)) = some u := by
  obtain ⟨xs, h1, h2, h3, h4⟩ := h
  obtain ⟨ad, e, hb, hc⟩ := h3.2 (by omega)
  have hz : (ms.zip xs)[i]? = some (ms[i], xs[i]) := by
    rw [List.getElem?_eq_getElem (by simp; omega)]
    simp
  refine ⟨ad, xs[i], e, hb, h4 _ (List.mem_of_getElem? hz), fun j u hu => hc _ u ?_⟩
  have hj : j < 11 := by
    rcases Nat.lt_or_ge j 11 with h | h
    · exact h
    · rw [List.getElem?_eq_none (by rw [cells_len]; exact h)] at hu; cases hu
  rw [flat_at 11 _ (fun y => cells_len y.1 y.2) _ i j _ hz hj]
  exact hu

end Go.Proofs.YtjcbfbdbgplakaaDoor
