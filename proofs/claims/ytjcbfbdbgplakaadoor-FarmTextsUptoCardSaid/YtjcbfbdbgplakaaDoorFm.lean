/-
  THE PLAIN LAW OF FarmTexts (no program in sight): what the two parsers and the two writers compute, as Lean functions on lists of bytes, and that they agree; what is written is read so.
-/
import Derived.Lib.ItoaNum
import Derived.Lib.AtoiAll
namespace Go.Proofs.YtjcbfbdbgplakaaDoor
namespace Fm
open Go.Lib

abbrev Bs := List UInt8

/-- A move: kind, A, B, N; the operation's kind, pid, at, n, prot, data; keep. -/
structure Mv where
  k : Int
  a : Int
  b : Int
  n : Int
  o : Int
  p : Int
  t : Int
  m : Int
  r : Int
  d : Bs
  e : List Bool

def zero (k o : Int) : Mv := ⟨k, 0, 0, 0, o, 0, 0, 0, 0, [], []⟩

/-! ### cutting at a byte -/

def splitOn (c : UInt8) : Bs → List Bs
  | [] => [[]]
  | x :: r => if x = c then [] :: splitOn c r else
    match splitOn c r with
    | [] => [[x]]
    | h :: t => (x :: h) :: t

theorem splitOn_ne (c : UInt8) (s : Bs) : splitOn c s ≠ [] := by
  cases s with
  | nil => simp [splitOn]
  | cons x r =>
    unfold splitOn
    split
    · simp
    · split <;> simp

def join (c : UInt8) : List Bs → Bs
  | [] => []
  | x :: r => x ++ r.flatMap (fun y => c :: y)

theorem join_splitOn (c : UInt8) : ∀ s : Bs, join c (splitOn c s) = s
  | [] => rfl
  | x :: r => by
    have ih := join_splitOn c r
    unfold splitOn
    split
    · rename_i h
      subst h
      cases hr : splitOn x r with
      | nil => exact absurd hr (splitOn_ne x r)
      | cons h t =>
        rw [hr] at ih
        simp only [join, List.nil_append, List.flatMap_cons, List.cons_append] at ih ⊢
        rw [ih]
    · cases hr : splitOn c r with
      | nil => exact absurd hr (splitOn_ne c r)
      | cons h t =>
        rw [hr] at ih
        simp only [join, List.cons_append] at ih ⊢
        rw [ih]

theorem splitOn_none {c : UInt8} : ∀ {l : Bs}, c ∉ l → splitOn c l = [l]
  | [], _ => rfl
  | x :: r, h => by
    have hx : x ≠ c := fun e => h (by simp [e])
    have hr : c ∉ r := fun e => h (by simp [e])
    simp [splitOn, hx, splitOn_none hr]

theorem splitOn_cons {c : UInt8} : ∀ {l : Bs} (r : Bs), c ∉ l → splitOn c (l ++ c :: r) = l :: splitOn c r
  | [], r, _ => by simp [splitOn]
  | x :: l, r, h => by
    have hx : x ≠ c := fun e => h (by simp [e])
    have hr : c ∉ l := fun e => h (by simp [e])
    simp [splitOn, hx, splitOn_cons r hr]

theorem splitOn_join {c : UInt8} : ∀ (w : Bs) (xs : List Bs), c ∉ w → (∀ x ∈ xs, c ∉ x) → splitOn c (w ++ xs.flatMap (fun y => c :: y)) = w :: xs
  | w, [], hw, _ => by simpa using splitOn_none hw
  | w, x :: xs, hw, hx => by
    rw [List.flatMap_cons, List.cons_append, splitOn_cons _ hw, splitOn_join x xs (hx x (by simp)) (fun y hy => hx y (by simp [hy]))]

theorem mem_splitOn {c : UInt8} : ∀ (s : Bs) (x : Bs), x ∈ splitOn c s → ∀ b ∈ x, b ∈ s
  | [], x, h, b, hb => by simp [splitOn] at h; subst h; simp at hb
  | y :: r, x, h, b, hb => by
    unfold splitOn at h
    split at h
    · rcases List.mem_cons.1 h with h | h
      · subst h; simp at hb
      · exact List.mem_cons_of_mem _ (mem_splitOn r x h b hb)
    · cases hr : splitOn c r with
      | nil => exact absurd hr (splitOn_ne c r)
      | cons g t =>
        rw [hr] at h
        rcases List.mem_cons.1 h with h | h
        · subst h
          rcases List.mem_cons.1 hb with h | h
          · simp [h]
          · exact List.mem_cons_of_mem _ (mem_splitOn r g (by rw [hr]; simp) b h)
        · exact List.mem_cons_of_mem _ (mem_splitOn r x (by rw [hr]; simp [h]) b hb)

/-! ### the table of words -/

def tab : List (Bs × Int × Int × Bs) := [
  ([109, 97, 107, 101], 1, 1, []),
  ([109, 97, 112], 1, 2, [112, 97, 110, 114]),
  ([117, 110, 109, 97, 112], 1, 3, [112, 97, 110]),
  ([112, 114, 111, 116, 101, 99, 116], 1, 4, [112, 97, 110, 114]),
  ([108, 111, 97, 100], 1, 5, [112, 97, 110]),
  ([115, 116, 111, 114, 101], 1, 6, [112, 97, 120]),
  ([102, 111, 114, 107], 1, 7, [112]),
  ([101, 120, 105, 116], 1, 8, [112]),
  ([108, 105, 115, 116], 1, 9, []),
  ([98, 101, 103, 105, 110], 2, 0, []),
  ([115, 116, 101, 112], 3, 0, []),
  ([99, 111, 109, 109, 105, 116], 4, 0, []),
  ([101, 118, 105, 99, 116], 5, 0, [78]),
  ([99, 108, 101, 97, 110], 6, 0, [78]),
  ([97, 114, 109], 7, 0, [78, 107]),
  ([98, 111, 111, 116], 8, 0, [107]),
  ([98, 117, 114, 115, 116], 9, 0, [65, 66, 78]),
  ([102, 117, 108, 108], 10, 0, [])]

def shape (w : Bs) : Int × Int × Bs := ((tab.find? (fun x => w == x.1)).map (·.2)).getD (0, 0, [])
def word (k o : Int) : Bs := ((tab.find? (fun x => k == x.2.1 && o == x.2.2.1)).map (·.1)).getD []

theorem shape_mem {w : Bs} {k o : Int} {q : Bs} (h : shape w = (k, o, q)) (hk : k ≠ 0) : (w, k, o, q) ∈ tab := by
  unfold shape at h
  cases hf : tab.find? (fun x => w == x.1) with
  | none => rw [hf] at h; simp at h; omega
  | some x =>
    rw [hf] at h
    have hm := List.mem_of_find?_eq_some hf
    have hw := List.find?_some hf
    simp only [beq_iff_eq] at hw
    simp only [Option.map_some, Option.getD_some] at h
    obtain ⟨x1, x2⟩ := x
    simp only at hw h
    subst hw
    subst h
    exact hm

theorem word_mem {k o : Int} (h : word k o ≠ []) : ∃ q, (word k o, k, o, q) ∈ tab := by
  unfold word at h ⊢
  cases hf : tab.find? (fun x => k == x.2.1 && o == x.2.2.1) with
  | none => rw [hf] at h; simp at h
  | some x =>
    have hm := List.mem_of_find?_eq_some hf
    have hw := List.find?_some hf
    simp only [Bool.and_eq_true, beq_iff_eq] at hw
    obtain ⟨x1, x2, x3, x4⟩ := x
    simp only at hw
    obtain ⟨rfl, rfl⟩ := hw
    exact ⟨x4, by simpa using hm⟩

/-- What the table says of each of its rows. -/
theorem tab_row : ∀ x ∈ tab, shape x.1 = x.2 ∧ word x.2.1 x.2.2.1 = x.1 ∧ x.1 ≠ [] ∧ x.2.1 ≠ 0 ∧ (32 : UInt8) ∉ x.1 ∧ (10 : UInt8) ∉ x.1 ∧ x.1.length ≤ 7 ∧ x.2.2.2.length ≤ 4 ∧
    x.2.2.2 ∈ ([[], [112, 97, 110, 114], [112, 97, 110], [112, 97, 120], [112], [78], [78, 107], [107], [65, 66, 78]] : List Bs) := by decide

theorem shape_parts (w : Bs) : (shape w).2.2 ∈ ([[], [112, 97, 110, 114], [112, 97, 110], [112, 97, 120], [112], [78], [78, 107], [107], [65, 66, 78]] : List Bs) := by
  unfold shape
  cases hf : tab.find? (fun x => w == x.1) with
  | none => simp
  | some x => simpa using (tab_row x (List.mem_of_find?_eq_some hf)).2.2.2.2.2.2.2.2

/-! ### numbers -/

def gr : Int := 999999999

def getN (m : Mv) (c : UInt8) : Int :=
  if c = 112 then m.p else if c = 97 then m.t else if c = 110 then m.m else if c = 114 then m.r else if c = 65 then m.a else if c = 66 then m.b else m.n
def setN (m : Mv) (c : UInt8) (v : Int) : Mv :=
  if c = 112 then { m with p := v } else if c = 97 then { m with t := v } else if c = 110 then { m with m := v } else if c = 114 then { m with r := v }
  else if c = 65 then { m with a := v } else if c = 66 then { m with b := v } else { m with n := v }

/-- The number of digits, from the left; none: there is another byte. -/
def digs : Nat → Bs → Option Nat
  | n, [] => some n
  | n, c :: r => if 48 ≤ c.toNat ∧ c.toNat ≤ 57 then digs (10 * n + (c.toNat - 48)) r else none

def numberU (neg : Bool) (s : Bs) : Option Nat :=
  if s = [] ∨ 9 < s.length ∨ (s.head? = some 48 ∧ (1 < s.length ∨ neg = true)) then none else digs 0 s
def number (s : Bs) : Option Int :=
  if s.head? = some 45 then (numberU true s.tail).map (fun u : Nat => -(u : Int)) else (numberU false s).map (fun u : Nat => (u : Int))

theorem digs_append : ∀ (a b : Bs) (n : Nat), digs n (a ++ b) = (digs n a).bind (fun u => digs u b)
  | [], b, n => by simp [digs]
  | c :: a, b, n => by
    simp only [List.cons_append, digs]
    split
    · exact digs_append a b _
    · rfl

theorem dig_toNat (u : Nat) (h : u < 10) : (UInt8.ofNat (48 + u)).toNat = 48 + u := by
  simp [UInt8.toNat_ofNat']; omega

theorem digs_dec (u : Nat) : digs 0 (decDigits u) = some u := by
  induction u using Nat.strongRecOn with
  | _ u ih =>
    rw [decDigits]
    split
    · rename_i h
      simp only [digs, dig_toNat u h]
      rw [if_pos (by omega)]
      simp
    · rename_i h
      rw [digs_append, ih (u / 10) (by omega)]
      simp only [Option.bind_some, digs, dig_toNat (u % 10) (by omega)]
      rw [if_pos (by omega)]
      simp only [Option.some.injEq]
      omega

theorem decDigits_len (u : Nat) : (decDigits u).length = nDigits u := by rw [decDigits_eq]; simp
theorem nDigits_le {u : Nat} (k : Nat) (h : u < 10 ^ (k + 1)) : nDigits u ≤ k + 1 := by
  induction k generalizing u with
  | zero => rw [nDigits_small (by simpa using h)]; exact Nat.le_refl _
  | succ k ih =>
    by_cases hu : u < 10
    · rw [nDigits_small hu]; omega
    · rw [nDigits_big hu]
      have := ih (u := u / 10) (by rw [Nat.pow_succ] at h; omega)
      omega
theorem decDigits_ne (u : Nat) : decDigits u ≠ [] := by
  intro h
  have := decDigits_len u
  have := nDigits_pos u
  rw [h] at *
  simp at *
  omega
theorem decDigits_digit (u : Nat) : ∀ c ∈ decDigits u, 48 ≤ c.toNat ∧ c.toNat ≤ 57 := by
  induction u using Nat.strongRecOn with
  | _ u ih =>
    rw [decDigits]
    split
    · rename_i h
      intro c hc
      simp only [List.mem_singleton] at hc
      subst hc
      rw [dig_toNat u h]; omega
    · rename_i h
      intro c hc
      rcases List.mem_append.1 hc with hc | hc
      · exact ih (u / 10) (by omega) c hc
      · simp only [List.mem_singleton] at hc
        subst hc
        rw [dig_toNat _ (by omega)]; omega
theorem decDigits_head (u : Nat) (h : (decDigits u).head? = some 48) : u = 0 := by
  induction u using Nat.strongRecOn with
  | _ u ih =>
    rw [decDigits] at h
    split at h
    · rename_i hu
      simp only [List.head?_cons, Option.some.injEq] at h
      have := congrArg UInt8.toNat h
      rw [dig_toNat u hu] at this
      simp at this
      exact this
    · rename_i hu
      have hne := decDigits_ne (u / 10)
      rw [List.head?_append, List.head?_eq_some_head hne] at h
      have := ih (u / 10) (by omega) (by rw [List.head?_eq_some_head hne]; simpa using h)
      omega

/-- Digits without noughts ahead are the numeral of their number. -/
theorem dec_digs : ∀ (k : Nat) (s : Bs) (u : Nat), s.length = k → s ≠ [] → (s.head? = some 48 → s.length = 1) → digs 0 s = some u → decDigits u = s ∧ u < 10 ^ s.length
  | 0, s, u, hl, hne, _, _ => absurd (List.eq_nil_of_length_eq_zero hl) hne
  | k + 1, s, u, hl, hne, hh, hd => by
    obtain ⟨a, c, rfl⟩ : ∃ a c, s = a ++ [c] := ⟨s.dropLast, s.getLast hne, (List.dropLast_concat_getLast hne).symm⟩
    rw [digs_append] at hd
    cases ha : digs 0 a with
    | none => rw [ha] at hd; cases hd
    | some v =>
      rw [ha] at hd
      simp only [Option.bind_some, digs] at hd
      split at hd
      · rename_i hc
        simp only [Option.some.injEq] at hd
        subst hd
        have hcv : UInt8.ofNat (48 + (c.toNat - 48)) = c := by
          apply UInt8.toNat.inj
          rw [dig_toNat _ (by omega)]; omega
        by_cases hae : a = []
        · subst hae
          simp only [digs, Option.some.injEq] at ha
          subst ha
          rw [decDigits, dif_pos (by omega)]
          simp only [Nat.mul_zero, Nat.zero_add, hcv]
          refine ⟨rfl, by simp; omega⟩
        · have hl' : a.length = k := by simpa using hl
          have hpos : 0 < a.length := List.length_pos_iff.2 hae
          have hh' : a.head? = some 48 → a.length = 1 := fun e => by
            have := hh (by rw [List.head?_append, e]; rfl)
            rw [List.length_append, List.length_singleton] at this
            omega
          have hnz : a.head? ≠ some 48 := fun e => by
            have := hh (by rw [List.head?_append, e]; rfl)
            rw [List.length_append, List.length_singleton] at this
            omega
          obtain ⟨h1, h2⟩ := dec_digs k a v hl' hae hh' ha
          have hv : v ≠ 0 := by
            rintro rfl
            rw [decDigits, dif_pos (by omega)] at h1
            exact hnz (by rw [← h1]; rfl)
          rw [decDigits, dif_neg (by omega)]
          have e1 : (10 * v + (c.toNat - 48)) / 10 = v := by omega
          have e2 : (10 * v + (c.toNat - 48)) % 10 = c.toNat - 48 := by omega
          rw [e1, e2, h1, hcv]
          refine ⟨rfl, ?_⟩
          rw [List.length_append, List.length_singleton, Nat.pow_succ]
          omega
      · cases hd

theorem number_itoa (v : Int) (h1 : -gr ≤ v) (h2 : v ≤ gr) : number (itoa v) = some v := by
  unfold gr at h1 h2
  have key : ∀ (neg : Bool) (u : Nat), u ≤ 999999999 → (neg = true → u ≠ 0) → numberU neg (decDigits u) = some u := by
    intro neg u hu hz
    unfold numberU
    rw [if_neg, digs_dec]
    rintro (h | h | ⟨h, h'⟩)
    · exact decDigits_ne u h
    · rw [decDigits_len] at h
      have := nDigits_le (u := u) 8 (by omega)
      omega
    · have h0 := decDigits_head u h
      subst h0
      rcases h' with h' | h'
      · rw [decDigits_len, nDigits_small (by omega)] at h'; omega
      · exact hz h' rfl
  unfold itoa number
  split
  · rename_i hv
    simp only [List.head?_cons, if_true, List.tail_cons]
    rw [key true v.natAbs (by omega) (by omega)]
    simp only [Option.map_some, Option.some.injEq]
    omega
  · rename_i hv
    rw [if_neg, key false v.toNat (by omega) (by simp)]
    · simp only [Option.map_some, Option.some.injEq]; omega
    · intro e
      have hne := decDigits_ne v.toNat
      rw [List.head?_eq_some_head hne] at e
      have := decDigits_digit v.toNat _ (List.head_mem hne)
      simp only [Option.some.injEq] at e
      rw [e] at this
      simp at this

theorem number_some {s : Bs} {v : Int} (h : number s = some v) : s = itoa v ∧ -gr ≤ v ∧ v ≤ gr := by
  have key : ∀ (neg : Bool) (s : Bs) (u : Nat), numberU neg s = some u → decDigits u = s ∧ u ≤ 999999999 ∧ (neg = true → u ≠ 0) := by
    intro neg s u h
    unfold numberU at h
    split at h
    · cases h
    · rename_i hc
      simp only [not_or, not_and] at hc
      obtain ⟨c1, c2, c3⟩ := hc
      obtain ⟨h1, h2⟩ := dec_digs s.length s u rfl c1 (fun e => by
        have := (c3 e).1
        have : 0 < s.length := List.length_pos_iff.2 c1
        omega) h
      have h3 : (10 : Nat) ^ s.length ≤ 10 ^ 9 := Nat.pow_le_pow_right (by omega) (by omega)
      refine ⟨h1, by omega, ?_⟩
      rintro rfl rfl
      rw [decDigits, dif_pos (by omega)] at h1
      exact (c3 (by rw [← h1]; rfl)).2 rfl
  unfold number at h
  unfold gr
  split at h
  · rename_i hh
    cases hu : numberU true s.tail with
    | none => rw [hu] at h; cases h
    | some u =>
      rw [hu] at h
      simp only [Option.map_some, Option.some.injEq] at h
      subst h
      obtain ⟨h1, h2, h3⟩ := key _ _ _ hu
      have := h3 rfl
      refine ⟨?_, by omega, by omega⟩
      unfold itoa
      rw [if_pos (by omega)]
      have : (-(u : Int)).natAbs = u := by omega
      rw [this, h1]
      cases s with
      | nil => cases hh
      | cons c r => simp only [List.head?_cons, Option.some.injEq] at hh; subst hh; rfl
  · cases hu : numberU false s with
    | none => rw [hu] at h; cases h
    | some u =>
      rw [hu] at h
      simp only [Option.map_some, Option.some.injEq] at h
      subst h
      obtain ⟨h1, h2, _⟩ := key _ _ _ hu
      refine ⟨?_, by omega, by omega⟩
      unfold itoa
      rw [if_neg (by omega), Int.toNat_natCast, h1]

theorem itoa_byte (v : Int) : ∀ c ∈ itoa v, c.toNat = 45 ∨ (48 ≤ c.toNat ∧ c.toNat ≤ 57) := by
  intro c hc
  unfold itoa at hc
  split at hc
  · rcases List.mem_cons.1 hc with h | h
    · left; rw [h]; rfl
    · right; exact decDigits_digit _ _ h
  · right; exact decDigits_digit _ _ hc

/-- What strconv.Atoi's number is, its error left aside. -/
def atoi (s : Bs) : Int :=
  match atoiAll s with
  | .ok v => v
  | .syntax => 0
  | .range => atoiSat s

theorem parse_digs : ∀ (s : Bs) (a u : Nat), u ≤ 999999999 → digs a s = some u → parseUint10 a s = .ok u
  | [], a, u, _, h => by simp only [digs, Option.some.injEq] at h; subst h; rfl
  | c :: r, a, u, hu, h => by
    simp only [digs] at h
    split at h
    · rename_i hc
      have hmono : ∀ (l : Bs) (x y : Nat), digs x l = some y → x ≤ y := by
        intro l
        induction l with
        | nil => intro x y h; simp only [digs, Option.some.injEq] at h; omega
        | cons c l ih =>
          intro x y h
          simp only [digs] at h
          split at h
          · have := ih _ _ h; omega
          · cases h
      have := hmono _ _ _ h
      simp only [parseUint10]
      rw [if_pos hc, if_neg (by omega), if_neg (by omega)]
      rw [Nat.mul_comm a 10]
      exact parse_digs r _ u hu h
    · cases h

theorem atoi_itoa (v : Int) (h1 : -gr ≤ v) (h2 : v ≤ gr) : atoi (itoa v) = v := by
  unfold gr at h1 h2
  unfold atoi itoa
  have hm : ∀ u : Nat, u ≤ 999999999 → parseMag (decDigits u) = .ok u := fun u hu => by
    unfold parseMag
    rw [if_neg (decDigits_ne u)]
    exact parse_digs _ _ _ hu (digs_dec u)
  by_cases hv : v < 0
  · rw [if_pos hv]
    simp only [atoiAll]
    rw [if_pos (by decide), hm _ (by omega)]
    have e : (45 : UInt8).toNat = 45 := rfl
    simp only [e, not_true, false_and, if_false, true_and, if_true]
    rw [if_neg (by omega)]
    simp only
    omega
  · rw [if_neg hv]
    cases hd : decDigits v.toNat with
    | nil => exact absurd hd (decDigits_ne _)
    | cons c r =>
      have hc := decDigits_digit v.toNat c (by rw [hd]; simp)
      simp only [atoiAll]
      rw [if_neg (by omega), ← hd, hm _ (by omega)]
      have e : ¬ c.toNat = 45 := by omega
      simp only [e, not_false_eq_true, true_and, false_and, if_false]
      rw [if_neg (by omega)]
      simp only
      omega

/-! ### bytes as digits -/

def hd (n : Nat) : UInt8 := if n < 10 then UInt8.ofNat (48 + n) else UInt8.ofNat (87 + n)
def hexed : Bs → Bs
  | [] => []
  | b :: r => hd (b.toNat / 16) :: hd (b.toNat % 16) :: hexed r

def digit (c : UInt8) : Int := if 48 ≤ c.toNat ∧ c.toNat ≤ 57 then (c.toNat : Int) - 48 else if 97 ≤ c.toNat ∧ c.toNat ≤ 102 then (c.toNat : Int) - 87 else -1

/-- Pairs of digits; none: a byte is none, or one is left over. -/
def hexP : Bs → Option Bs
  | [] => some []
  | x :: y :: r => if digit x < 0 ∨ digit y < 0 then none else (hexP r).map (UInt8.ofNat (16 * digit x + digit y).toNat :: ·)
  | _ => none
def hex (s : Bs) : Option Bs := if s = [] then none else hexP s

def readHex : Bs → Bs
  | x :: y :: r => UInt8.ofNat (16 * (max (digit x) 0) + max (digit y) 0).toNat :: readHex r
  | _ => []

theorem hd_toNat (n : Nat) (h : n < 16) : (hd n).toNat = if n < 10 then 48 + n else 87 + n := by
  unfold hd
  split <;> simp [UInt8.toNat_ofNat'] <;> omega
theorem digit_hd (n : Nat) (h : n < 16) : digit (hd n) = n := by
  unfold digit
  rw [hd_toNat n h]
  by_cases hn : n < 10
  · rw [if_pos hn, if_pos (by omega)]; omega
  · rw [if_neg hn, if_neg (by omega), if_pos (by omega)]; omega
theorem hd_digit (c : UInt8) (h : 0 ≤ digit c) : hd (digit c).toNat = c ∧ (digit c).toNat < 16 := by
  unfold digit at h ⊢
  split at h
  · rename_i hc
    rw [if_pos hc]
    refine ⟨?_, by omega⟩
    apply UInt8.toNat.inj
    rw [hd_toNat _ (by omega), if_pos (by omega)]; omega
  · rename_i hc
    rw [if_neg hc]
    split at h
    · rename_i hd'
      rw [if_pos hd']
      refine ⟨?_, by omega⟩
      apply UInt8.toNat.inj
      rw [hd_toNat _ (by omega), if_neg (by omega)]; omega
    · omega

theorem byte_lt (b : UInt8) : b.toNat < 256 := UInt8.toNat_lt b
theorem hexP_hexed : ∀ b : Bs, hexP (hexed b) = some b
  | [] => rfl
  | b :: r => by
    have := byte_lt b
    simp only [hexed, hexP, digit_hd _ (show b.toNat / 16 < 16 by omega), digit_hd _ (show b.toNat % 16 < 16 by omega)]
    rw [if_neg (by omega), hexP_hexed r]
    simp only [Option.map_some, Option.some.injEq, List.cons.injEq, and_true]
    apply UInt8.toNat.inj
    simp only [UInt8.toNat_ofNat']
    omega
theorem hexed_hexP : ∀ (s b : Bs), hexP s = some b → hexed b = s
  | [], b, h => by simp only [hexP, Option.some.injEq] at h; subst h; rfl
  | [x], b, h => by simp [hexP] at h
  | x :: y :: r, b, h => by
    simp only [hexP] at h
    split at h
    · cases h
    · rename_i hc
      simp only [not_or, Int.not_lt] at hc
      cases hr : hexP r with
      | none => rw [hr] at h; cases h
      | some t =>
        rw [hr] at h
        simp only [Option.map_some, Option.some.injEq] at h
        subst h
        obtain ⟨a1, a2⟩ := hd_digit x hc.1
        obtain ⟨b1, b2⟩ := hd_digit y hc.2
        have e : (UInt8.ofNat (16 * digit x + digit y).toNat).toNat = 16 * (digit x).toNat + (digit y).toNat := by
          simp only [UInt8.toNat_ofNat']; omega
        simp only [hexed, e, hexed_hexP r t hr, List.cons.injEq, and_true]
        have d1 : (16 * (digit x).toNat + (digit y).toNat) / 16 = (digit x).toNat := by omega
        have d2 : (16 * (digit x).toNat + (digit y).toNat) % 16 = (digit y).toNat := by omega
        rw [d1, d2]
        exact ⟨a1, b1⟩
theorem readHex_hexed : ∀ b : Bs, readHex (hexed b) = b
  | [] => rfl
  | b :: r => by
    have := byte_lt b
    simp only [hexed, readHex, digit_hd _ (show b.toNat / 16 < 16 by omega), digit_hd _ (show b.toNat % 16 < 16 by omega), readHex_hexed r, List.cons.injEq, and_true]
    apply UInt8.toNat.inj
    simp only [UInt8.toNat_ofNat']
    omega
theorem hexed_ne {b : Bs} (h : b ≠ []) : hexed b ≠ [] := by cases b with | nil => exact absurd rfl h | cons => simp [hexed]
theorem hex_hexed {b : Bs} (h : b ≠ []) : hex (hexed b) = some b := by unfold hex; rw [if_neg (hexed_ne h), hexP_hexed]
theorem hex_some {s b : Bs} (h : hex s = some b) : s = hexed b ∧ b ≠ [] := by
  unfold hex at h
  split at h
  · cases h
  · rename_i hs
    have := hexed_hexP s b h
    refine ⟨this.symm, ?_⟩
    rintro rfl
    exact hs this.symm
theorem hd_byte (n : Nat) (h : n < 16) : (48 ≤ (hd n).toNat ∧ (hd n).toNat ≤ 102) := by
  rw [hd_toNat n h]; split <;> omega
theorem hexed_byte : ∀ (b : Bs), ∀ c ∈ hexed b, 48 ≤ c.toNat ∧ c.toNat ≤ 102
  | [], c, h => by simp [hexed] at h
  | b :: r, c, h => by
    have := byte_lt b
    simp only [hexed, List.mem_cons] at h
    rcases h with rfl | rfl | h
    · exact hd_byte _ (by omega)
    · exact hd_byte _ (by omega)
    · exact hexed_byte r c h
theorem hexed_len : ∀ b : Bs, (hexed b).length = 2 * b.length
  | [] => rfl
  | b :: r => by simp [hexed, hexed_len r]; omega

/-! ### what is kept -/

def kept (l : List Bool) : Bs := if l = [] then [45] else l.map (fun b => if b then 49 else 48)
def keepP : Bs → Option (List Bool)
  | [] => some []
  | c :: r => if c = 48 ∨ c = 49 then (keepP r).map (decide (c = 49) :: ·) else none
def keep (s : Bs) : Option (List Bool) := if s = [45] then some [] else if s = [] then none else keepP s
def readKept (s : Bs) : List Bool := if s = [45] then [] else s.map (fun c => decide (c = 49))

theorem keepP_map : ∀ l : List Bool, keepP (l.map (fun b => if b then 49 else 48)) = some l
  | [] => rfl
  | b :: r => by cases b <;> simp [keepP, keepP_map r]
theorem map_keepP : ∀ (s : Bs) (l : List Bool), keepP s = some l → l.map (fun b => if b then (49 : UInt8) else 48) = s
  | [], l, h => by simp only [keepP, Option.some.injEq] at h; subst h; rfl
  | c :: r, l, h => by
    simp only [keepP] at h
    split at h
    · rename_i hc
      cases hr : keepP r with
      | none => rw [hr] at h; cases h
      | some t =>
        rw [hr] at h
        simp only [Option.map_some, Option.some.injEq] at h
        subst h
        simp only [List.map_cons, map_keepP r t hr, List.cons.injEq, and_true]
        rcases hc with rfl | rfl <;> rfl
    · cases h
theorem kept_ne45 (b : Bool) (r : List Bool) : kept (b :: r) ≠ [45] := by cases b <;> simp [kept]
theorem keep_kept (l : List Bool) : keep (kept l) = some l := by
  unfold keep
  cases l with
  | nil => rfl
  | cons b r =>
    rw [if_neg (kept_ne45 b r), if_neg (by simp [kept])]
    exact keepP_map (b :: r)
theorem keep_some {s : Bs} {l : List Bool} (h : keep s = some l) : s = kept l := by
  unfold keep at h
  split at h
  · simp only [Option.some.injEq] at h; subst h; assumption
  · split at h
    · cases h
    · rename_i h1 h2
      have := map_keepP s l h
      unfold kept
      rw [if_neg, this]
      rintro rfl
      exact h2 this.symm
theorem readKept_kept (l : List Bool) : readKept (kept l) = l := by
  unfold readKept
  cases l with
  | nil => rfl
  | cons b r =>
    rw [if_neg (kept_ne45 b r)]
    have : ∀ l : List Bool, (l.map (fun b => if b then (49 : UInt8) else 48)).map (fun c => decide (c = 49)) = l := by
      intro l
      induction l with
      | nil => rfl
      | cons b l ih => cases b <;> simp_all
    unfold kept
    rw [if_neg (by simp)]
    exact this _
theorem kept_byte (l : List Bool) : ∀ c ∈ kept l, c.toNat = 45 ∨ c.toNat = 48 ∨ c.toNat = 49 := by
  unfold kept
  intro c hc
  split at hc
  · simp only [List.mem_singleton] at hc; subst hc; left; rfl
  · obtain ⟨b, _, rfl⟩ := List.mem_map.1 hc
    cases b
    · right; left; rfl
    · right; right; rfl

/-! ### parts -/

def partR (m : Mv) (c : UInt8) (s : Bs) : Option Mv :=
  if c = 120 then (hex s).map (fun b => { m with d := b }) else if c = 107 then (keep s).map (fun l => { m with e := l }) else (number s).map (setN m c)
def partF (m : Mv) (c : UInt8) (s : Bs) : Mv :=
  if c = 120 then { m with d := readHex s } else if c = 107 then { m with e := readKept s } else setN m c (atoi s)
def partT (m : Mv) (c : UInt8) : Option Bs :=
  if c = 120 then (if m.d = [] then none else some (hexed m.d)) else if c = 107 then some (kept m.e) else
  if getN m c < -gr ∨ gr < getN m c then none else some (itoa (getN m c))
def copyP (m b : Mv) (c : UInt8) : Mv :=
  if c = 120 then { b with d := m.d } else if c = 107 then { b with e := m.e } else setN b c (getN m c)

def foldR (m : Mv) : Bs → List Bs → Option Mv
  | c :: q, s :: ps => (partR m c s).bind (fun x => foldR x q ps)
  | _, _ => some m
def foldF (m : Mv) : Bs → List Bs → Mv
  | c :: q, s :: ps => foldF (partF m c s) q ps
  | _, _ => m
def lineGo (m : Mv) : Bs → Bs → Mv → Option (Bs × Mv)
  | [], t, b => some (t, b)
  | c :: q, t, b => (partT m c).bind (fun x => lineGo m q (t ++ 32 :: x) (copyP m b c))

def same (x y : Mv) : Bool :=
  x.k == y.k && x.a == y.a && x.b == y.b && x.n == y.n && x.o == y.o && x.p == y.p && x.t == y.t && x.m == y.m && x.r == y.r && x.d == y.d && x.e == y.e
theorem same_iff {x y : Mv} : same x y = true ↔ x = y := by
  cases x; cases y
  simp only [same, Bool.and_eq_true, beq_iff_eq, Mv.mk.injEq]
  constructor
  · rintro ⟨⟨⟨⟨⟨⟨⟨⟨⟨⟨h1, h2⟩, h3⟩, h4⟩, h5⟩, h6⟩, h7⟩, h8⟩, h9⟩, h10⟩, h11⟩
    exact ⟨h1, h2, h3, h4, h5, h6, h7, h8, h9, h10, h11⟩
  · rintro ⟨h1, h2, h3, h4, h5, h6, h7, h8, h9, h10, h11⟩
    exact ⟨⟨⟨⟨⟨⟨⟨⟨⟨⟨h1, h2⟩, h3⟩, h4⟩, h5⟩, h6⟩, h7⟩, h8⟩, h9⟩, h10⟩, h11⟩
theorem same_self (x : Mv) : same x x = true := same_iff.2 rfl

def line (m : Mv) : Bs :=
  if word m.k m.o = [] then [] else
  match lineGo m (shape (word m.k m.o)).2.2 (word m.k m.o) (zero m.k m.o) with
  | none => []
  | some (t, b) => if same m b = true then t else []

def lineR (s : Bs) : Option Mv :=
  match splitOn 32 s with
  | [] => none
  | w :: ps => if (shape w).1 = 0 ∨ ps.length ≠ (shape w).2.2.length then none else foldR (zero (shape w).1 (shape w).2.1) (shape w).2.2 ps

def preF (s : Bs) : Option Mv :=
  match splitOn 32 s with
  | [] => none
  | w :: ps => if (shape w).1 = 0 ∨ ps.length ≠ (shape w).2.2.length then none else some (foldF (zero (shape w).1 (shape w).2.1) (shape w).2.2 ps)
def readF (s : Bs) : Option Mv := (preF s).bind (fun m => if line m = s then some m else none)

/-! ### reading what was written -/

theorem partR_of {m b : Mv} {c : UInt8} {x : Bs} (h : partT m c = some x) : partR b c x = some (copyP m b c) := by
  unfold partT at h
  unfold partR copyP
  split at h
  · rename_i hc
    rw [if_pos hc, if_pos hc]
    split at h
    · cases h
    · rename_i hd
      simp only [Option.some.injEq] at h
      subst h
      rw [hex_hexed hd]; rfl
  · rename_i hc
    rw [if_neg hc, if_neg hc]
    split at h
    · rename_i hk
      simp only [Option.some.injEq] at h
      subst h
      rw [if_pos hk, if_pos hk, keep_kept]; rfl
    · rename_i hk
      rw [if_neg hk, if_neg hk]
      split at h
      · cases h
      · rename_i hg
        simp only [Option.some.injEq] at h
        subst h
        simp only [not_or, Int.not_lt] at hg
        rw [number_itoa _ hg.1 hg.2]; rfl
theorem partF_of {m b : Mv} {c : UInt8} {x : Bs} (h : partT m c = some x) : partF b c x = copyP m b c := by
  unfold partT at h
  unfold partF copyP
  split at h
  · rename_i hc
    rw [if_pos hc, if_pos hc]
    split at h
    · cases h
    · simp only [Option.some.injEq] at h
      subst h
      rw [readHex_hexed]
  · rename_i hc
    rw [if_neg hc, if_neg hc]
    split at h
    · rename_i hk
      simp only [Option.some.injEq] at h
      subst h
      rw [if_pos hk, if_pos hk, readKept_kept]
    · rename_i hk
      rw [if_neg hk, if_neg hk]
      split at h
      · cases h
      · rename_i hg
        simp only [Option.some.injEq] at h
        subst h
        simp only [not_or, Int.not_lt] at hg
        rw [atoi_itoa _ hg.1 hg.2]
theorem partT_byte {m : Mv} {c : UInt8} {x : Bs} (h : partT m c = some x) : (32 : UInt8) ∉ x ∧ (10 : UInt8) ∉ x := by
  have key : ∀ y : Bs, (∀ c ∈ y, 45 ≤ c.toNat) → (32 : UInt8) ∉ y ∧ (10 : UInt8) ∉ y := fun y hy =>
    ⟨fun e => by have := hy _ e; simp at this, fun e => by have := hy _ e; simp at this⟩
  unfold partT at h
  split at h
  · split at h
    · cases h
    · simp only [Option.some.injEq] at h
      subst h
      exact key _ fun c hc => by have := hexed_byte _ c hc; omega
  · split at h
    · simp only [Option.some.injEq] at h
      subst h
      exact key _ fun c hc => by have := kept_byte _ c hc; omega
    · split at h
      · cases h
      · simp only [Option.some.injEq] at h
        subst h
        exact key _ fun c hc => by have := itoa_byte _ c hc; omega

theorem lineGo_some (m : Mv) : ∀ (q t : Bs) (b : Mv) (t' : Bs) (b' : Mv), lineGo m q t b = some (t', b') →
    ∃ xs : List Bs, xs.length = q.length ∧ t' = t ++ xs.flatMap (fun y => 32 :: y) ∧ foldR b q xs = some b' ∧ foldF b q xs = b' ∧ (∀ x ∈ xs, (32 : UInt8) ∉ x ∧ (10 : UInt8) ∉ x)
  | [], t, b, t', b', h => by
    simp only [lineGo, Option.some.injEq, Prod.mk.injEq] at h
    obtain ⟨rfl, rfl⟩ := h
    exact ⟨[], rfl, by simp, rfl, rfl, by simp⟩
  | c :: q, t, b, t', b', h => by
    simp only [lineGo] at h
    cases hp : partT m c with
    | none => rw [hp] at h; cases h
    | some x =>
      rw [hp] at h
      simp only [Option.bind_some] at h
      obtain ⟨xs, h1, h2, h3, h4, h5⟩ := lineGo_some m q _ _ t' b' h
      refine ⟨x :: xs, by simp [h1], by simp [h2], ?_, ?_, ?_⟩
      · simp only [foldR, partR_of (b := b) hp, Option.bind_some, h3]
      · simp only [foldF, partF_of (b := b) hp, h4]
      · intro y hy
        rcases List.mem_cons.1 hy with rfl | hy
        · exact partT_byte hp
        · exact h5 y hy

theorem line_some {m : Mv} (h : line m ≠ []) : lineR (line m) = some m ∧ preF (line m) = some m ∧ (10 : UInt8) ∉ line m := by
  unfold line at h ⊢
  by_cases hw : word m.k m.o = []
  · rw [if_pos hw] at h; exact absurd rfl h
  · rw [if_neg hw] at h ⊢
    cases hg : lineGo m (shape (word m.k m.o)).2.2 (word m.k m.o) (zero m.k m.o) with
    | none => rw [hg] at h; exact absurd rfl h
    | some y =>
      obtain ⟨t, b⟩ := y
      rw [hg] at h
      simp only at h ⊢
      by_cases hs : same m b = true
      · rw [if_pos hs] at h ⊢
        obtain rfl := same_iff.1 hs
        obtain ⟨q, hq⟩ := word_mem hw
        obtain ⟨r1, r2, r3, r4, r5, r6, r7, r8, r9⟩ := tab_row _ hq
        obtain ⟨xs, h1, h2, h3, h4, h5⟩ := lineGo_some m _ _ _ _ _ hg
        have hsp : splitOn 32 t = word m.k m.o :: xs := by
          rw [h2]; exact splitOn_join _ _ r5 (fun x hx => (h5 x hx).1)
        simp only at r1
        rw [r1] at h1 h3 h4
        refine ⟨?_, ?_, ?_⟩
        · unfold lineR
          rw [hsp]
          simp only [r1]
          rw [if_neg (by simp [h1]; exact r4)]
          exact h3
        · unfold preF
          rw [hsp]
          simp only [r1]
          rw [if_neg (by simp [h1]; exact r4)]
          exact congrArg some h4
        · rw [h2]
          intro e
          rcases List.mem_append.1 e with e | e
          · exact r6 e
          · obtain ⟨y, hy, he⟩ := List.mem_flatMap.1 e
            rcases List.mem_cons.1 he with he | he
            · exact absurd he (by decide)
            · exact (h5 y hy).2 he
      · rw [if_neg hs] at h; exact absurd rfl h

/-! ### what is read is written so -/

theorem foldR_line {k o : Int} {w q : Bs} {ps : List Bs} {m : Mv} (hq : q ∈ ([[], [112, 97, 110, 114], [112, 97, 110], [112, 97, 120], [112], [78], [78, 107], [107], [65, 66, 78]] : List Bs))
    (hl : ps.length = q.length) (h : foldR (zero k o) q ps = some m) : lineGo m q w (zero m.k m.o) = some (w ++ ps.flatMap (fun y => 32 :: y), m) ∧ m.k = k ∧ m.o = o := by
  have num : ∀ {s : Bs} {v : Int}, number s = some v → s = itoa v ∧ ¬ (v < -gr ∨ gr < v) := fun h => by
    obtain ⟨h1, h2, h3⟩ := number_some h
    exact ⟨h1, by omega⟩
  simp only [List.mem_cons, List.not_mem_nil, or_false] at hq
  rcases hq with rfl | rfl | rfl | rfl | rfl | rfl | rfl | rfl | rfl
  · match ps, hl with
    | [], _ =>
      simp only [foldR, Option.some.injEq] at h
      subst h
      simp [lineGo, zero]
  · match ps, hl with
    | [x1, x2, x3, x4], _ =>
      simp [foldR, partR, setN, zero, Option.bind_eq_some_iff] at h
      obtain ⟨_, ⟨v1, h1, rfl⟩, _, ⟨v2, h2, rfl⟩, _, ⟨v3, h3, rfl⟩, v4, h4, rfl⟩ := h
      obtain ⟨rfl, g1⟩ := num h1
      obtain ⟨rfl, g2⟩ := num h2
      obtain ⟨rfl, g3⟩ := num h3
      obtain ⟨rfl, g4⟩ := num h4
      simp [lineGo, partT, getN, setN, copyP, zero, g1, g2, g3, g4]
  · match ps, hl with
    | [x1, x2, x3], _ =>
      simp [foldR, partR, setN, zero, Option.bind_eq_some_iff] at h
      obtain ⟨_, ⟨v1, h1, rfl⟩, _, ⟨v2, h2, rfl⟩, v3, h3, rfl⟩ := h
      obtain ⟨rfl, g1⟩ := num h1
      obtain ⟨rfl, g2⟩ := num h2
      obtain ⟨rfl, g3⟩ := num h3
      simp [lineGo, partT, getN, setN, copyP, zero, g1, g2, g3]
  · match ps, hl with
    | [x1, x2, x3], _ =>
      simp [foldR, partR, setN, zero, Option.bind_eq_some_iff] at h
      obtain ⟨_, ⟨v1, h1, rfl⟩, _, ⟨v2, h2, rfl⟩, v3, h3, rfl⟩ := h
      obtain ⟨rfl, g1⟩ := num h1
      obtain ⟨rfl, g2⟩ := num h2
      obtain ⟨rfl, g3⟩ := hex_some h3
      simp [lineGo, partT, getN, setN, copyP, zero, g1, g2, g3]
  · match ps, hl with
    | [x1], _ =>
      simp [foldR, partR, setN, zero] at h
      obtain ⟨v1, h1, rfl⟩ := h
      obtain ⟨rfl, g1⟩ := num h1
      simp [lineGo, partT, getN, setN, copyP, zero, g1]
  · match ps, hl with
    | [x1], _ =>
      simp [foldR, partR, setN, zero] at h
      obtain ⟨v1, h1, rfl⟩ := h
      obtain ⟨rfl, g1⟩ := num h1
      simp [lineGo, partT, getN, setN, copyP, zero, g1]
  · match ps, hl with
    | [x1, x2], _ =>
      simp [foldR, partR, setN, zero, Option.bind_eq_some_iff] at h
      obtain ⟨_, ⟨v1, h1, rfl⟩, v2, h2, rfl⟩ := h
      obtain ⟨rfl, g1⟩ := num h1
      obtain rfl := keep_some h2
      simp [lineGo, partT, getN, setN, copyP, zero, g1]
  · match ps, hl with
    | [x1], _ =>
      simp [foldR, partR, zero] at h
      obtain ⟨v1, h1, rfl⟩ := h
      obtain rfl := keep_some h1
      simp [lineGo, partT, copyP, zero]
  · match ps, hl with
    | [x1, x2, x3], _ =>
      simp [foldR, partR, setN, zero, Option.bind_eq_some_iff] at h
      obtain ⟨_, ⟨v1, h1, rfl⟩, _, ⟨v2, h2, rfl⟩, v3, h3, rfl⟩ := h
      obtain ⟨rfl, g1⟩ := num h1
      obtain ⟨rfl, g2⟩ := num h2
      obtain ⟨rfl, g3⟩ := num h3
      simp [lineGo, partT, getN, setN, copyP, zero, g1, g2, g3]

theorem lineR_some {s : Bs} {m : Mv} (h : lineR s = some m) : line m = s ∧ s ≠ [] := by
  unfold lineR at h
  have hj := join_splitOn 32 s
  cases hsp : splitOn 32 s with
  | nil => exact absurd hsp (splitOn_ne 32 s)
  | cons w ps =>
    rw [hsp] at h hj
    simp only at h
    split at h
    · cases h
    · rename_i hc
      simp only [not_or, Classical.not_not] at hc
      have hm := shape_mem (w := w) (k := (shape w).1) (o := (shape w).2.1) (q := (shape w).2.2) rfl hc.1
      obtain ⟨r1, r2, r3, r4, r5, r6, r7, r8, r9⟩ := tab_row _ hm
      simp only at r2 r3
      obtain ⟨g1, g2, g3⟩ := foldR_line (w := w) r9 hc.2 h
      have hs : w ++ ps.flatMap (fun y => 32 :: y) = s := hj
      refine ⟨?_, ?_⟩
      · unfold line
        rw [g2, g3, r2, if_neg r3]
        rw [g2, g3] at g1
        rw [g1]
        simp only [same_self, if_true]
        exact hs
      · rw [← hs]
        intro e
        exact r3 (List.append_eq_nil_iff.1 e).1

theorem readF_eq (s : Bs) : readF s = lineR s := by
  unfold readF
  cases hp : preF s with
  | none =>
    unfold preF at hp
    unfold lineR
    cases hsp : splitOn 32 s with
    | nil => rfl
    | cons w ps =>
      rw [hsp] at hp
      simp only at hp ⊢
      split at hp
      · rename_i hc; rw [if_pos hc]; rfl
      · cases hp
  | some m =>
    simp only [Option.bind_some]
    by_cases hl : line m = s
    · rw [if_pos hl]
      have hne : line m ≠ [] := by
        rw [hl]
        rintro rfl
        have : preF [] = none := by decide
        rw [this] at hp; cases hp
      have := (line_some hne).1
      rw [hl] at this
      exact this.symm
    · rw [if_neg hl]
      cases hr : lineR s with
      | none => rfl
      | some m' =>
        obtain ⟨h1, h2⟩ := lineR_some hr
        have := (line_some (m := m') (by rw [h1]; exact h2)).2.1
        rw [h1, hp] at this
        simp only [Option.some.injEq] at this
        subst this
        exact absurd h1 hl

/-! ### texts -/

/-- The moves of lines; none: one line is none. Empty lines are passed over. -/
def moves (f : Bs → Option Mv) : List Bs → Option (List Mv)
  | [] => some []
  | s :: r => if s = [] then moves f r else (f s).bind (fun m => (moves f r).map (m :: ·))

/-- What the parsers tell: the moves, the error's number. -/
def parse (text : Bs) : List Mv × Int :=
  match moves lineR (splitOn 10 text) with
  | none => ([], 22)
  | some l => if 4096 < l.length then ([], 24) else (l, 0)

def text (l : List Mv) : Bs := l.flatMap (fun m => if line m = [] then [] else line m ++ [10])

theorem moves_text : ∀ l : List Mv, moves lineR (splitOn 10 (text l)) = some (l.filter (fun m => decide (line m ≠ [])))
  | [] => rfl
  | m :: l => by
    have ih := moves_text l
    unfold text at ih ⊢
    rw [List.flatMap_cons]
    by_cases h : line m = []
    · rw [if_pos h, List.nil_append, ih, List.filter_cons_of_neg (by simp [h])]
    · rw [if_neg h, List.append_assoc, List.singleton_append, splitOn_cons _ (line_some h).2.2, List.filter_cons_of_pos (by simp [h])]
      simp only [moves]
      rw [if_neg h, (line_some h).1, ih]
      rfl

theorem parse_text (l : List Mv) (h : l.length ≤ 4096) : parse (text l) = (l.filter (fun m => decide (line m ≠ [])), 0) := by
  unfold parse
  rw [moves_text]
  simp only
  rw [if_neg]
  have := List.length_filter_le (fun m => decide (line m ≠ [])) l
  omega

#print axioms readF_eq
#print axioms parse_text
end Fm
end Go.Proofs.YtjcbfbdbgplakaaDoor
