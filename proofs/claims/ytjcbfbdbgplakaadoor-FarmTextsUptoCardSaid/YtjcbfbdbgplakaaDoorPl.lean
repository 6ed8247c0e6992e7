/-
  PLAIN LAW: how long a move's line and a list's text are, how long the slices of a parsed move are.
-/
import Derived.Test.YtjcbfbdbgplakaaDoorFm
namespace Go.Proofs.YtjcbfbdbgplakaaDoor
open Lib
namespace Fm

theorem keptLen (l : List Bool) : (kept l).length ≤ l.length + 1 ∧ l.length ≤ (kept l).length := by
  unfold kept
  split
  · rename_i h; subst h; simp
  · rw [List.length_map]; omega
theorem partT_len2 {m : Mv} {c : UInt8} {x : Bs} (h : partT m c = some x) : x.length ≤ 2 * m.d.length + m.e.length + 12 := by
  unfold partT at h
  split at h
  · split at h
    · cases h
    · simp only [Option.some.injEq] at h
      subst h
      rw [hexed_len]; omega
  · split at h
    · simp only [Option.some.injEq] at h
      subst h
      have := (keptLen m.e).1
      omega
    · split at h
      · cases h
      · rename_i hg
        simp only [Option.some.injEq] at h
        subst h
        unfold gr at hg
        unfold Lib.itoa
        split
        · rw [List.length_cons, decDigits_len]
          have := nDigits_le (u := (getN m c).natAbs) 8 (by omega)
          omega
        · rw [decDigits_len]
          have := nDigits_le (u := (getN m c).toNat) 8 (by omega)
          omega
theorem lineGo_len2 (m : Mv) : ∀ (q t : Bs) (b : Mv) (t' : Bs) (b' : Mv), lineGo m q t b = some (t', b') → t'.length ≤ t.length + q.length * (2 * m.d.length + m.e.length + 13)
  | [], t, b, t', b', h => by simp only [lineGo, Option.some.injEq, Prod.mk.injEq] at h; rw [h.1]; omega
  | c :: q, t, b, t', b', h => by
    simp only [lineGo] at h
    cases hp : partT m c with
    | none => rw [hp] at h; cases h
    | some x =>
      rw [hp, Option.bind_some] at h
      have h1 := lineGo_len2 m q _ _ t' b' h
      have h2 := partT_len2 hp
      rw [List.length_append, List.length_cons] at h1
      rw [List.length_cons, Nat.succ_mul]
      omega
theorem setN_d (m : Mv) (c : UInt8) (v : Int) : (setN m c v).d = m.d ∧ (setN m c v).e = m.e := by
  unfold setN
  repeat (first | split | exact ⟨rfl, rfl⟩)
theorem lineGo_de (m : Mv) : ∀ (q t : Bs) (b : Mv) (t' : Bs) (b' : Mv), lineGo m q t b = some (t', b') → t.length ≤ t'.length ∧ (b'.d.length ≤ b.d.length ∨ b'.d.length ≤ t'.length) ∧ (b'.e.length ≤ b.e.length ∨ b'.e.length ≤ t'.length)
  | [], t, b, t', b', h => by
    simp only [lineGo, Option.some.injEq, Prod.mk.injEq] at h
    rw [h.1, h.2]
    exact ⟨Nat.le_refl _, .inl (Nat.le_refl _), .inl (Nat.le_refl _)⟩
  | c :: q, t, b, t', b', h => by
    simp only [lineGo] at h
    cases hp : partT m c with
    | none => rw [hp] at h; cases h
    | some x =>
      rw [hp, Option.bind_some] at h
      obtain ⟨h1, h2, h3⟩ := lineGo_de m q _ _ t' b' h
      rw [List.length_append, List.length_cons] at h1
      have hc : ((copyP m b c).d.length ≤ b.d.length ∨ (copyP m b c).d.length ≤ x.length) ∧ ((copyP m b c).e.length ≤ b.e.length ∨ (copyP m b c).e.length ≤ x.length) := by
        unfold partT at hp
        unfold copyP
        split at hp
        · rename_i hc
          rw [if_pos hc]
          split at hp
          · cases hp
          · simp only [Option.some.injEq] at hp
            subst hp
            rw [hexed_len]
            refine ⟨.inr ?_, .inl ?_⟩
            · show m.d.length ≤ _; omega
            · exact Nat.le_refl _
        · rename_i hc
          rw [if_neg hc]
          split at hp
          · rename_i hk
            rw [if_pos hk]
            simp only [Option.some.injEq] at hp
            subst hp
            exact ⟨.inl (Nat.le_refl _), .inr (keptLen m.e).2⟩
          · rename_i hk
            rw [if_neg hk]
            obtain ⟨e1, e2⟩ := setN_d b c (getN m c)
            rw [e1, e2]
            exact ⟨.inl (Nat.le_refl _), .inl (Nat.le_refl _)⟩
      omega
theorem line_ne {m : Mv} (h : line m ≠ []) : ∃ b, lineGo m (shape (word m.k m.o)).2.2 (word m.k m.o) (zero m.k m.o) = some (line m, b) ∧ m = b ∧ word m.k m.o ≠ [] := by
  unfold line at h ⊢
  split at h
  · exact absurd rfl h
  · rename_i hw
    rw [if_neg hw]
    split at h
    · exact absurd rfl h
    · rename_i t b hg
      split at h
      · rename_i hs
        simp only [hg, if_pos hs]
        exact ⟨b, rfl, same_iff.1 hs, hw⟩
      · exact absurd rfl h
theorem line_de {m : Mv} (h : line m ≠ []) : m.d.length ≤ (line m).length ∧ m.e.length ≤ (line m).length := by
  obtain ⟨b, hg, hm, _⟩ := line_ne h
  have := lineGo_de m _ _ _ _ _ hg
  rw [← hm] at this
  simp [zero] at this
  refine ⟨?_, ?_⟩
  · rcases this.2.1 with h | h
    · rw [h]; simp
    · exact h
  · rcases this.2.2 with h | h
    · rw [h]; simp
    · exact h
theorem parts4 : ∀ q ∈ ([[], [112, 97, 110, 114], [112, 97, 110], [112, 97, 120], [112], [78], [78, 107], [107], [65, 66, 78]] : List Bs), q.length ≤ 4 := by decide
theorem line_len2 (m : Mv) : (line m).length ≤ 59 + 8 * m.d.length + 4 * m.e.length := by
  by_cases h : line m = []
  · rw [h]; simp
  · obtain ⟨b, hg, hm, hw⟩ := line_ne h
    have h1 := lineGo_len2 m _ _ _ _ _ hg
    have hwl : (word m.k m.o).length ≤ 7 := by
      obtain ⟨q', hq'⟩ := word_mem hw
      exact (tab_row _ hq').2.2.2.2.2.2.1
    have hq := parts4 _ (shape_parts (word m.k m.o))
    have : (shape (word m.k m.o)).2.2.length * (2 * m.d.length + m.e.length + 13) ≤ 4 * (2 * m.d.length + m.e.length + 13) := Nat.mul_le_mul_right _ hq
    omega
theorem text_len2 : ∀ (l : List Mv), (text l).length ≤ 60 * l.length + 8 * (l.map (fun m => m.d.length + m.e.length)).sum
  | [] => by simp [text]
  | m :: l => by
    have h1 := text_len2 l
    have h2 := line_len2 m
    have : (text (m :: l)).length ≤ (line m).length + 1 + (text l).length := by
      unfold text
      rw [List.flatMap_cons, List.length_append]
      split
      · simp
      · rw [List.length_append, List.length_singleton]; omega
    rw [List.length_cons, List.map_cons, List.sum_cons]
    omega
theorem mem_len (c : UInt8) : ∀ (s x : Bs), x ∈ splitOn c s → x.length ≤ s.length
  | [], x, h => by simp [splitOn] at h; rw [h]; simp
  | a :: s, x, h => by
    have ih := mem_len c s
    by_cases ha : a = c
    · simp only [splitOn, if_pos ha] at h
      rcases List.mem_cons.1 h with rfl | h
      · simp
      · have := ih x h
        rw [List.length_cons]; omega
    · simp only [splitOn, if_neg ha] at h
      cases hs : splitOn c s with
      | nil => exact absurd hs (splitOn_ne c s)
      | cons w ws =>
        rw [hs] at ih h
        rcases List.mem_cons.1 h with rfl | h
        · have := ih w List.mem_cons_self
          simp only [List.length_cons]; omega
        · have := ih x (List.mem_cons_of_mem _ h)
          rw [List.length_cons]; omega
theorem moves_mem {f : Bs → Option Mv} : ∀ (l : List Bs) (ms : List Mv), moves f l = some ms → ∀ m ∈ ms, ∃ x ∈ l, f x = some m
  | [], ms, h, m, hm => by simp [moves] at h; subst h; cases hm
  | x :: l, ms, h, m, hm => by
    simp only [moves] at h
    split at h
    · obtain ⟨y, hy, e⟩ := moves_mem l ms h m hm
      exact ⟨y, List.mem_cons_of_mem _ hy, e⟩
    · cases hx : f x with
      | none => rw [hx] at h; cases h
      | some m0 =>
        rw [hx, Option.bind_some] at h
        cases hr : moves f l with
        | none => rw [hr] at h; cases h
        | some r =>
          rw [hr] at h
          simp only [Option.map_some, Option.some.injEq] at h
          subst h
          rcases List.mem_cons.1 hm with rfl | hm
          · exact ⟨x, List.mem_cons_self, hx⟩
          · obtain ⟨y, hy, e⟩ := moves_mem l r hr m hm
            exact ⟨y, List.mem_cons_of_mem _ hy, e⟩
/-- The moves that are read from a text have slices no longer than it. -/
theorem parse_de (s : Bs) : (parse s).1.length ≤ 4096 ∧ ∀ m ∈ (parse s).1, m.d.length ≤ s.length ∧ m.e.length ≤ s.length := by
  unfold parse
  split
  · simp
  · rename_i l hl
    split
    · simp
    · refine ⟨by show l.length ≤ _; omega, fun m hm => ?_⟩
      obtain ⟨x, hx, e⟩ := moves_mem _ _ hl m hm
      obtain ⟨h1, h2⟩ := lineR_some e
      have h3 := line_de (m := m) (by rw [h1]; exact h2)
      have h4 := mem_len 10 s x hx
      rw [h1] at h3
      omega
end Fm
end Go.Proofs.YtjcbfbdbgplakaaDoor
