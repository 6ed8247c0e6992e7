/-
  WALKS: kept, hexed, decimal, number of the references.
-/
import Derived.Test.YtjcbfbdbgplakaaDoorAid
namespace Go.Proofs.YtjcbfbdbgplakaaDoor
open Go.RowKit
open Fm (Bs Mv)

set_option maxHeartbeats 1000000 in
theorem keptR_any (A : Option Addr) (c : Nat) (l : List Bool) (w : World) (h : Bools w w.heap.size A l) (hl : l.length ≤ 1048576) :
    Calls Tryd.prog 22 #[.slice A l.length c] w fun e w' => e = .returned (.string (str (Fm.kept l))) ∧ Below w.heap.size w w' := by
  obtain ⟨i0, hi, hz0, hz1, hz2⟩ := info_parts info5
  by_cases h0 : l = []
  · subst h0
    have hz : ((0 : Int) == 0) = true := rfl
    go_enter Tryd.func22, Tryd.ntmps22
    go_wp2
    go_ret
    exact ⟨rfl, Below.refl _ _⟩
  · have hpos : 0 < l.length := List.length_pos_iff.2 h0
    have hz : ((l.length : Int) == 0) = false := by simp; omega
    have HK : Hid (Fm.kept l = l.map (fun b => if b then 49 else 48)) := by unfold Fm.kept; rw [if_neg h0]; rfl
    go_enter Tryd.func22, Tryd.ntmps22
    go_wp2
    go_loopw [3, 4] (fun v i wr => ∃ (k : Nat) (g : Option Addr) (cp : Nat), k ≤ l.length ∧ i = .int .i64 k ∧ v = .slice g k cp ∧ wr.ownsRow w.heap.size 5 1 (.slice g k cp) k (u8s ((l.map (fun b => if b then (49 : UInt8) else 48)).take k)) ∧ Below w.heap.size w wr)
      (fun _ i _ => l.length - (intOf i).toNat)
    case atStart => exact ⟨0, none, 0, Nat.zero_le _, rfl, rfl, World.ownsRow_nil _ _ _ _, Below.refl _ _⟩
    case round =>
      obtain ⟨k, g, cp, hk, rfl, rfl, hown, hb⟩ := hrel
      by_cases hlt : k < l.length
      · obtain ⟨ad, u, hA, hadb, hu, hc⟩ := (h.below hb (Nat.le_refl _)).at_ hlt
        subst hA
        rw [bls_at l k hlt] at hu
        obtain rfl : Value.bool l[k] = u := by simpa using hu
        obtain ⟨bk, hbk⟩ : ∃ bk, l[k] = bk := ⟨_, rfl⟩
        rw [hbk] at hc
        have HB : Hid (l[k] = bk) := hbk
        clear hbk hu
        cases bk
        all_goals
          go_wp2_with (at_builtin; refine wpList_append_lies _ rfl _ _ 32 rfl w.heap.size 5 i0 (.int .u8 0) 1 1 Tryd.underlying32 hi hz0 hz1 hz2 rfl (by decide) _ _ _ rfl (hown.alloc _) ⟨wr.heap.size, 0, none⟩ 1 1 [_] rfl rfl (one_cell _ _ _) (u8_one _) (by decide) (by unfold maxLen; omega) (by omega) (by have := hb.size; simp; omega) _ rfl ?_)
          intro g1 cap w1 hown' hgrow _ _
          have hb1 : Below w.heap.size w w1 := (hb.alloc hb.size _).grown hgrow (by have := hb.size; simp; omega) (fun j hj => (hown.lt j hj).1)
          go_wp2
          go_roundw
          case rel =>
            refine ⟨k + 1, _, _, by omega, by go_num, rfl, ?_, hb1⟩
            rw [u8s_take _ k (by simpa using hlt)]
            simpa [HB.out] using hown'
          case measure => simp [intOf]; omega
      · obtain rfl : k = l.length := by omega
        rw [List.take_of_length_le (by simp)] at hown
        have hbs : Bytes wr wr.heap.size g (l.map (fun b => if b then (49 : UInt8) else 48)) := by have := Rd.of_own hown; unfold Bytes; rw [List.length_map]; exact this
        have kc := run_bytes_string cp hbs
        simp only [List.length_map] at kc
        go_wp2
        go_ret
        exact ⟨by rw [HK.out]; rfl, hb⟩

theorem hexed_take (l : Bs) (k : Nat) (h : k < l.length) : Fm.hexed (l.take (k + 1)) = Fm.hexed (l.take k) ++ [Fm.hd (l[k].toNat / 16), Fm.hd (l[k].toNat % 16)] := by
  rw [List.take_succ_eq_append_getElem h]
  have key : ∀ (a : Bs) (b : UInt8), Fm.hexed (a ++ [b]) = Fm.hexed a ++ [Fm.hd (b.toNat / 16), Fm.hd (b.toNat % 16)] := by
    intro a b
    induction a with
    | nil => rfl
    | cons x r ih => simp [Fm.hexed, ih]
  exact key _ _

def hexs : ByteArray := ⟨#[48, 49, 50, 51, 52, 53, 54, 55, 56, 57, 97, 98, 99, 100, 101, 102]⟩
theorem hexs_at (n : Nat) (h : n < 16) : hexs.data.toList[n]? = some (Fm.hd n) := by
  unfold Fm.hd
  rcases (by omega : n = 0 ∨ n = 1 ∨ n = 2 ∨ n = 3 ∨ n = 4 ∨ n = 5 ∨ n = 6 ∨ n = 7 ∨ n = 8 ∨ n = 9 ∨ n = 10 ∨ n = 11 ∨ n = 12 ∨ n = 13 ∨ n = 14 ∨ n = 15) with rfl | rfl | rfl | rfl | rfl | rfl | rfl | rfl | rfl | rfl | rfl | rfl | rfl | rfl | rfl | rfl <;> rfl

theorem hex_index (n : Nat) (h : n < 16) (W : World) : (Instr.index 9 (.string ⟨#[48, 49, 50, 51, 52, 53, 54, 55, 56, 57, 97, 98, 99, 100, 101, 102]⟩) (.int .u8 (n : Int))).run Tryd.prog W = .ok (.int .u8 ((Fm.hd n).toNat : Int)) W := by
  rw [run_index_string W 9 _ .u8 (n : Int) Tryd.underlying9]
  rw [dif_pos ⟨by omega, by show (n : Int) < 16; omega⟩]
  have := hexs_at n h
  simp only [Int.toNat_natCast]
  unfold Fm.hd
  rcases (by omega : n = 0 ∨ n = 1 ∨ n = 2 ∨ n = 3 ∨ n = 4 ∨ n = 5 ∨ n = 6 ∨ n = 7 ∨ n = 8 ∨ n = 9 ∨ n = 10 ∨ n = 11 ∨ n = 12 ∨ n = 13 ∨ n = 14 ∨ n = 15) with rfl | rfl | rfl | rfl | rfl | rfl | rfl | rfl | rfl | rfl | rfl | rfl | rfl | rfl | rfl | rfl <;> rfl

set_option maxRecDepth 100000 in
set_option maxHeartbeats 1000000 in
theorem hexedR_any (A : Option Addr) (c : Nat) (l : Bs) (w : World) (h : Bytes w w.heap.size A l) (hl : l.length ≤ 1048576) :
    Calls Tryd.prog 21 #[.slice A l.length c] w fun e w' => e = .returned (.string (str (Fm.hexed l))) ∧ Below w.heap.size w w' := by
  obtain ⟨i0, hi, hz0, hz1, hz2⟩ := info_parts info5
  go_enter Tryd.func21, Tryd.ntmps21
  go_wp2
  go_loopw [4, 5] (fun v i wr => ∃ (k : Nat) (g : Option Addr) (cp : Nat), k ≤ l.length ∧ i = .int .i64 k ∧ v = .slice g (2 * k) cp ∧ wr.ownsRow w.heap.size 5 1 (.slice g (2 * k) cp) (2 * k) (u8s (Fm.hexed (l.take k))) ∧ Below w.heap.size w wr)
    (fun _ i _ => l.length - (intOf i).toNat)
  case atStart => exact ⟨0, none, 0, Nat.zero_le _, rfl, rfl, World.ownsRow_nil _ _ _ _, Below.refl _ _⟩
  case round =>
    obtain ⟨k, g, cp, hk, rfl, rfl, hown, hb⟩ := hrel
    by_cases hlt : k < l.length
    · obtain ⟨ad, u, hA, hadb, hu, hc⟩ := (h.below hb (Nat.le_refl _)).at_ hlt
      subst hA
      rw [u8s_at l k hlt] at hu
      obtain rfl : Value.int .u8 (l[k].toNat : Int) = u := by simpa using hu
      obtain ⟨bk, hbk⟩ : ∃ bk : Nat, l[k].toNat = bk := ⟨_, rfl⟩
      have hbk' : bk < 256 := hbk ▸ Fm.byte_lt _
      rw [hbk] at hc
      have HB : Hid (l[k].toNat = bk) := hbk
      clear hbk hu
      have hq1 : ∀ W : World, (Instr.index 9 (.string ⟨#[48, 49, 50, 51, 52, 53, 54, 55, 56, 57, 97, 98, 99, 100, 101, 102]⟩) (.int .u8 ((bk : Int) / 16))).run Tryd.prog W = .ok (.int .u8 ((Fm.hd (bk / 16)).toNat : Int)) W := fun W => by
        have := hex_index (bk / 16) (by omega) W
        rwa [show ((bk / 16 : Nat) : Int) = (bk : Int) / 16 from by omega] at this
      have hq2 : ∀ W : World, (Instr.index 9 (.string ⟨#[48, 49, 50, 51, 52, 53, 54, 55, 56, 57, 97, 98, 99, 100, 101, 102]⟩) (.int .u8 ((bk : Int) % 16))).run Tryd.prog W = .ok (.int .u8 ((Fm.hd (bk % 16)).toNat : Int)) W := fun W => by
        have := hex_index (bk % 16) (by omega) W
        rwa [show ((bk % 16 : Nat) : Int) = (bk : Int) % 16 from by omega] at this
      obtain ⟨p1, hp1⟩ : ∃ p1 : Int, ((Fm.hd (bk / 16)).toNat : Int) = p1 := ⟨_, rfl⟩
      obtain ⟨p2, hp2⟩ : ∃ p2 : Int, ((Fm.hd (bk % 16)).toNat : Int) = p2 := ⟨_, rfl⟩
      rw [hp1] at hq1
      rw [hp2] at hq2
      have HP1 : Hid (((Fm.hd (bk / 16)).toNat : Int) = p1) := hp1
      have HP2 : Hid (((Fm.hd (bk % 16)).toNat : Int) = p2) := hp2
      clear hp1 hp2
      have hw1 : IntKind.u8.wrap ((bk : Int) / 16) = (bk : Int) / 16 := by rw [IntKind.wrap_u8]; omega
      have hw2 : IntKind.u8.wrap ((bk : Int) % 16) = (bk : Int) % 16 := by rw [IntKind.wrap_u8]; omega
      have hw3 : IntKind.u8.wrap ((bk : Int).tdiv 16) = (bk : Int) / 16 := by rw [Int.tdiv_eq_ediv_of_nonneg (by omega), hw1]
      have hw4 : (bk : Int).tmod 16 = (bk : Int) % 16 := Int.tmod_eq_emod_of_nonneg (by omega)
      go_wp2_with fail
      go_region_law (refine step_append_lies _ rfl (.tmp 12) (.tmp 27) 32 rfl w.heap.size 5 i0 (.int .u8 0) 1 1 Tryd.underlying32 hi hz0 hz1 hz2 rfl (by decide) (.slice g (2 * k) cp) (2 * k) (u8s (Fm.hexed (l.take k))) rfl (hown.drew.alloc _) ⟨wr.heap.size, 0, none⟩ 2 2 [.int .u8 p1, .int .u8 p2] rfl rfl (cell_two_new _ _ _ _) (u8_two _ _) (by decide) (by unfold maxLen; omega) (by omega) (by have := hb.size; simp; omega) (wr.heap.size + 1) (by simp) ?_; intro g1 cap w1 hown' hgrow _ _)
      all_goals
        have hb1 : Below w.heap.size w w1 := (hb.alloc hb.size _).drew.grown hgrow (by have := hb.size; simp; omega) (fun j hj => (hown.lt j hj).1)
        go_wp2
        go_roundw
        case rel =>
          refine ⟨k + 1, _, _, by omega, by go_num, rfl, ?_, hb1⟩
          rw [hexed_take l k hlt, HB.out, show 2 * (k + 1) = 2 * k + 2 from by omega]
          rw [← HP1.out, ← HP2.out] at hown'
          simpa [u8s] using hown'
        case measure => simp [intOf]; omega
    · obtain rfl : k = l.length := by omega
      rw [List.take_of_length_le (Nat.le_refl _)] at hown
      have hbs : Bytes wr wr.heap.size g (Fm.hexed l) := by have := Rd.of_own hown; unfold Bytes; rw [Fm.hexed_len]; exact this
      have kc := run_bytes_string cp hbs
      rw [Fm.hexed_len] at kc
      go_wp2
      go_ret
      exact ⟨rfl, hb⟩

theorem one_byte_string (W : World) (b : Int) : (convert 32 9 (.slice (some ⟨W.heap.size, 0, none⟩) 1 1)).run Tryd.prog (W.alloc (.cells #[.int .u8 b] 5)) = .ok (.string ⟨#[UInt8.ofNat b.toNat]⟩) (W.alloc (.cells #[.int .u8 b] 5)) := by
  have h := run_convert_bytes_arg (P := Tryd.prog) (W.alloc (.cells #[.int .u8 b] 5)) 32 5 Tryd.underlying32 Tryd.underlying5 W.heap.size 0 1 1 [b] rfl (fun i hi => by
    obtain rfl : i = 0 := by omega
    simp [go_sem]) 9 Tryd.underlying9
  exact h

def dgt (n : Nat) : UInt8 := UInt8.ofNat (48 + n)
set_option maxHeartbeats 1000000 in
theorem decPos_any (n : Nat) (w : World) (hn : n ≤ 999999999) :
    Calls Tryd.prog 24 #[.int .i64 (n : Int)] w fun e w' => e = .returned (.string (str (Lib.decDigits n))) ∧ Below w.heap.size w w' := by
  have kc := one_byte_string
  go_enter Tryd.func24, Tryd.ntmps24
  go_wp2
  go_loopw [0, 3] (fun x t wr => ∃ (u : Nat) (r : Bs), u ≤ 999999999 ∧ x = .int .i64 u ∧ t = .string (str (dgt (u % 10) :: r)) ∧ Lib.decDigits u ++ r = Lib.decDigits n ∧ Below w.heap.size w wr)
    (fun x _ _ => (intOf x).toNat)
  case atStart => exact ⟨n, [], hn, rfl, rfl, by simp, (Below.refl _ _).alloc (Nat.le_refl _) _⟩
  case round =>
    obtain ⟨u, r, hu, rfl, rfl, hd, hb⟩ := hrel
    have HD : Hid (Lib.decDigits u ++ r = Lib.decDigits n) := hd
    have hsz : ¬ 9223372036854775807 < 1 + (str (dgt (u % 10) :: r)).size := by
      have h1 := congrArg List.length hd
      rw [List.length_append, Fm.decDigits_len, Fm.decDigits_len] at h1
      have := Fm.nDigits_le (u := n) 8 (by omega)
      rw [str_size, List.length_cons]
      omega
    clear hd
    by_cases hlt : 10 ≤ u
    · go_wp2
      go_roundw
      case rel =>
        refine ⟨u / 10, dgt (u % 10) :: r, by omega, by go_num, ?_, ?_, hb.alloc hb.size _⟩
        · rw [show str (dgt (u / 10 % 10) :: dgt (u % 10) :: r) = ⟨#[dgt (u / 10 % 10)]⟩ ++ str (dgt (u % 10) :: r) from (str_append [_] _).symm]
          simp [dgt]
        · have := HD.out
          rw [Lib.decDigits, dif_neg (by omega)] at this
          simpa [dgt] using this
      case measure => simp [intOf]; omega
    · have hd := HD.out
      rw [Lib.decDigits, dif_pos (by omega)] at hd
      have HE : Hid (Lib.decDigits n = dgt (u % 10) :: r) := by rw [← hd, Nat.mod_eq_of_lt (by omega)]; rfl
      clear hd
      go_wp2
      go_ret
      exact ⟨by rw [HE.out]; rfl, hb⟩

theorem decimal_any (n : Int) (w : World) (h1 : -999999999 ≤ n) (h2 : n ≤ 999999999) :
    Calls Tryd.prog 24 #[.int .i64 n] w fun e w' => e = .returned (.string (str (Lib.itoa n))) ∧ Below w.heap.size w w' := by
  by_cases hn : n < 0
  · obtain ⟨u, hu⟩ : ∃ u : Nat, 0 - n = u := ⟨(0 - n).toNat, by omega⟩
    have hu' : u ≤ 999999999 := by omega
    have c := decPos_any u
    have HI : Hid (str (Lib.itoa n) = ⟨#[45]⟩ ++ str (Lib.decDigits u)) := by
      unfold Lib.itoa
      rw [if_pos hn, show n.natAbs = u from by omega]
      exact (str_append [45] (Lib.decDigits u)).symm
    have hsz : ¬ 9223372036854775807 < 1 + (str (Lib.decDigits u)).size := by
      have := Fm.nDigits_le (u := u) 8 (by omega)
      rw [str_size, Fm.decDigits_len]
      omega
    have HC := Lib.hid c
    clear c
    obtain rfl : n = -(u : Int) := by omega
    clear hu
    go_enter Tryd.func24, Tryd.ntmps24
    go_wp2_with fail
    refine (HC.out _ hu').mono ?_
    rintro e w' ⟨rfl, hb⟩
    go_wp2
    go_ret
    exact ⟨by rw [HI.out]; rfl, hb⟩
  · obtain ⟨u, rfl⟩ : ∃ u : Nat, n = u := ⟨n.toNat, by omega⟩
    have := decPos_any u w (by omega)
    unfold Lib.itoa
    rw [if_neg hn]
    exact this

theorem digs_step (q : Bs) (k u : Nat) (hk : k < q.length) (h : Fm.digs 0 (q.take k) = some u) :
    (48 ≤ q[k].toNat ∧ q[k].toNat ≤ 57 → Fm.digs 0 (q.take (k + 1)) = some (10 * u + (q[k].toNat - 48))) ∧ (¬ (48 ≤ q[k].toNat ∧ q[k].toNat ≤ 57) → Fm.digs 0 q = none) := by
  refine ⟨fun hc => ?_, fun hc => ?_⟩
  · rw [List.take_succ_eq_append_getElem hk, Fm.digs_append, h]
    simp only [Option.bind_some, Fm.digs]
    rw [if_pos hc]
  · rw [← List.take_append_drop k q, Fm.digs_append, h, List.drop_eq_getElem_cons hk]
    simp only [Option.bind_some, Fm.digs]
    rw [if_neg hc]

theorem digs_lt (q : Bs) : ∀ (n u : Nat), Fm.digs n q = some u → u < (n + 1) * 10 ^ q.length := by
  induction q with
  | nil => intro n u h; simp only [Fm.digs, Option.some.injEq] at h; subst h; simp
  | cons c r ih =>
    intro n u h
    simp only [Fm.digs] at h
    split at h
    · rename_i hc
      have := ih _ _ h
      rw [List.length_cons, Nat.pow_succ]
      have h2 : (10 * n + (c.toNat - 48) + 1) * 10 ^ r.length ≤ (10 * (n + 1)) * 10 ^ r.length := Nat.mul_le_mul_right _ (by omega)
      calc u < _ := this
        _ ≤ (10 * (n + 1)) * 10 ^ r.length := h2
        _ = (n + 1) * (10 ^ r.length * 10) := by rw [Nat.mul_comm 10 (n + 1), Nat.mul_assoc, Nat.mul_comm 10]
    · cases h

/-- What number hands back. -/
def numV (o : Option Int) : Value := match o with
  | some v => .tuple #[.int .i64 v, .bool true]
  | none => .tuple #[.int .i64 0, .bool false]

set_option maxHeartbeats 1000000 in
theorem number_empty (w : World) : Calls Tryd.prog 42 #[.string (str [])] w fun e w' => e = .returned (numV (Fm.number [])) ∧ w = w' := by
  have h1 : ((str []).toList == []) = true := by rw [str_toList]; rfl
  have h2 : (str []).toList = [] := str_toList []
  go_enter Tryd.func42, Tryd.ntmps42
  go_wp2
  go_ret2
  exact ⟨rfl, rfl⟩

set_option maxHeartbeats 1000000 in
theorem number_neg (q : Bs) (w : World) (hne : q ≠ []) (hlen : q.length ≤ 9) (hh : q.head? ≠ some 48) : Calls Tryd.prog 42 #[.string (str (45 :: q))] w fun e w' => e = .returned (numV ((Fm.digs 0 q).map (fun u : Nat => -(u : Int)))) ∧ w = w' := by
  have hpos : 0 < q.length := List.length_pos_iff.2 hne
  have e1 : ((str (45 :: q)).toList == []) = false := by rw [str_toList]; rfl
  have e2 : ((str q).toList == []) = false := by rw [str_toList]; cases q <;> simp at hne ⊢
  have i0 : ∀ W : World, (Instr.index 9 (.string (str (45 :: q))) (.int .i64 0)).run Tryd.prog W = .ok (.int .u8 45) W := fun W => str_idx (45 :: q) .i64 0 (by simp) W
  have i1 : ∀ W : World, (Instr.slice 9 (.string (str (45 :: q))) (some (.int .i64 1)) none none).run Tryd.prog W = .ok (.string (str q)) W := fun W => by
    rw [run_slice_string_l W 9 _ Tryd.underlying9 .i64 1 (by omega) (by rw [str_size]; simp; omega)]
    congr 2
    apply ByteArray.ext
    simp [str, ByteArray.size]
  obtain ⟨c0, hc0⟩ : ∃ c0 : Nat, q[0].toNat = c0 := ⟨_, rfl⟩
  have hc48 : ((c0 : Int) == 48) = false := by
    simp only [beq_eq_false_iff_ne, ne_eq]
    intro e
    apply hh
    rw [List.head?_eq_getElem?, List.getElem?_eq_getElem hpos, Option.some.injEq]
    apply UInt8.toNat.inj
    rw [hc0]
    have : (c0 : Int) = 48 := e
    show c0 = 48
    omega
  have i2 : ∀ W : World, (Instr.index 9 (.string (str q)) (.int .i64 0)).run Tryd.prog W = .ok (.int .u8 (c0 : Int)) W := fun W => by rw [← hc0]; exact str_idx q .i64 0 hpos W
  have hsz : (str q).size = q.length := str_size q
  have hl9 : ¬ (9 : Int) < (q.length : Int) := by omega
  clear hc0 hne hh
  go_enter Tryd.func42, Tryd.ntmps42
  go_wp2
  go_loop [5, 6] (fun x i => ∃ k u : Nat, k ≤ q.length ∧ i = .int .i64 k ∧ x = .int .i64 u ∧ Fm.digs 0 (q.take k) = some u)
    (fun _ i => q.length - (intOf i).toNat)
  case atStart => exact ⟨0, 0, Nat.zero_le _, rfl, rfl, by simp [Fm.digs]⟩
  case round =>
    obtain ⟨k, u, hk, rfl, rfl, hd⟩ := hrel
    have hu : u < 1000000000 := by
      have h1 := digs_lt _ _ _ hd
      have h2 : (10 : Nat) ^ (q.take k).length ≤ 10 ^ 9 := Nat.pow_le_pow_right (by omega) (by rw [List.length_take]; omega)
      omega
    have HD : Hid (Fm.digs 0 (q.take k) = some u) := hd
    clear hd
    by_cases hlt : k < q.length
    · obtain ⟨ck, hck⟩ : ∃ ck : Nat, q[k].toNat = ck := ⟨_, rfl⟩
      have hckb : ck < 256 := hck ▸ Fm.byte_lt _
      have ik : ∀ W : World, (Instr.index 9 (.string (str q)) (.int .i64 (k : Int))).run Tryd.prog W = .ok (.int .u8 (ck : Int)) W := fun W => by rw [← hck]; exact str_idx q .i64 k hlt W
      have HS := digs_step q k u hlt HD.out
      rw [hck] at HS
      have HS' := Lib.hid HS
      clear HS hck
      by_cases hdig : 48 ≤ ck ∧ ck ≤ 57
      · obtain ⟨hd1, hd2⟩ := hdig
        go_wp2
        go_round
        case rel => exact ⟨k + 1, 10 * u + (ck - 48), by omega, by go_num, by go_num, HS'.out.1 ⟨hd1, hd2⟩⟩
        case measure => simp [intOf]; omega
      · have HN : Hid (Fm.digs 0 q = none) := HS'.out.2 hdig
        rcases (by omega : ck < 48 ∨ 57 < ck) with h1 | h1
        all_goals
          go_wp2
          go_ret2
          exact ⟨by rw [HN.out]; rfl, rfl⟩
    · obtain rfl : k = q.length := by omega
      have HD' : Hid (Fm.digs 0 q = some u) := by have := HD.out; rwa [List.take_of_length_le (Nat.le_refl _)] at this
      go_wp2
      go_ret2
      exact ⟨by rw [HD'.out]; rfl, rfl⟩
set_option maxHeartbeats 1000000 in
theorem number_bad1 (w : World) : Calls Tryd.prog 42 #[.string (str [45])] w fun e w' => e = .returned (numV none) ∧ w = w' := by
  have e1 : ((str [45]).toList == []) = false := by rw [str_toList]; rfl
  have i0 : ∀ W : World, (Instr.index 9 (.string (str [45])) (.int .i64 0)).run Tryd.prog W = .ok (.int .u8 45) W := fun W => str_idx [45] .i64 0 (by simp) W
  have i1 : ∀ W : World, (Instr.slice 9 (.string (str [45])) (some (.int .i64 1)) none none).run Tryd.prog W = .ok (.string (str [])) W := fun W => by
    rw [run_slice_string_l W 9 _ Tryd.underlying9 .i64 1 (by omega) (by rw [str_size]; simp)]
    congr 2
  have e2 : ((str []).toList == []) = true := by rw [str_toList]; rfl
  have e3 : (str []).toList = [] := str_toList []
  go_enter Tryd.func42, Tryd.ntmps42
  go_wp2
  go_ret2
  exact ⟨rfl, rfl⟩
set_option maxHeartbeats 1000000 in
theorem number_bad2 (q : Bs) (w : World) (hlen : 9 < q.length) : Calls Tryd.prog 42 #[.string (str (45 :: q))] w fun e w' => e = .returned (numV none) ∧ w = w' := by
  have hne : q ≠ [] := by rintro rfl; simp at hlen
  have e1 : ((str (45 :: q)).toList == []) = false := by rw [str_toList]; rfl
  have e2 : ((str q).toList == []) = false := by rw [str_toList]; cases q <;> simp at hne ⊢
  have i0 : ∀ W : World, (Instr.index 9 (.string (str (45 :: q))) (.int .i64 0)).run Tryd.prog W = .ok (.int .u8 45) W := fun W => str_idx (45 :: q) .i64 0 (by simp) W
  have i1 : ∀ W : World, (Instr.slice 9 (.string (str (45 :: q))) (some (.int .i64 1)) none none).run Tryd.prog W = .ok (.string (str q)) W := fun W => by
    rw [run_slice_string_l W 9 _ Tryd.underlying9 .i64 1 (by omega) (by rw [str_size]; simp; omega)]
    congr 2
    apply ByteArray.ext
    simp [str, ByteArray.size]
  have hsz : (str q).size = q.length := str_size q
  have hl9 : (9 : Int) < (q.length : Int) := by omega
  clear hne
  go_enter Tryd.func42, Tryd.ntmps42
  go_wp2
  go_ret2
  exact ⟨rfl, rfl⟩
set_option maxHeartbeats 1000000 in
theorem number_bad3 (q : Bs) (w : World) (hlen : q.length ≤ 9) (hh : q.head? = some 48) : Calls Tryd.prog 42 #[.string (str (45 :: q))] w fun e w' => e = .returned (numV none) ∧ w = w' := by
  have hne : q ≠ [] := by rintro rfl; simp at hh
  have hpos : 0 < q.length := List.length_pos_iff.2 hne
  have e1 : ((str (45 :: q)).toList == []) = false := by rw [str_toList]; rfl
  have e2 : ((str q).toList == []) = false := by rw [str_toList]; cases q <;> simp at hne ⊢
  have i0 : ∀ W : World, (Instr.index 9 (.string (str (45 :: q))) (.int .i64 0)).run Tryd.prog W = .ok (.int .u8 45) W := fun W => str_idx (45 :: q) .i64 0 (by simp) W
  have i1 : ∀ W : World, (Instr.slice 9 (.string (str (45 :: q))) (some (.int .i64 1)) none none).run Tryd.prog W = .ok (.string (str q)) W := fun W => by
    rw [run_slice_string_l W 9 _ Tryd.underlying9 .i64 1 (by omega) (by rw [str_size]; simp; omega)]
    congr 2
    apply ByteArray.ext
    simp [str, ByteArray.size]
  obtain ⟨c0, hc0⟩ : ∃ c0 : Nat, q[0].toNat = c0 := ⟨_, rfl⟩
  have head_of : ∀ x : UInt8, q.head? = some x → c0 = x.toNat := by
    intro x hx
    rw [List.head?_eq_getElem?, List.getElem?_eq_getElem hpos, Option.some.injEq] at hx
    rw [← hc0, hx]
  have head_ne : ∀ x : UInt8, q.head? ≠ some x → c0 ≠ x.toNat := by
    intro x hx e
    apply hx
    rw [List.head?_eq_getElem?, List.getElem?_eq_getElem hpos, Option.some.injEq]
    apply UInt8.toNat.inj
    rw [hc0, e]
  have h48 : c0 = 48 := head_of 48 hh
  have b48 : ((c0 : Int) == 48) = true := by simp only [beq_iff_eq]; omega
  have i2 : ∀ W : World, (Instr.index 9 (.string (str q)) (.int .i64 0)).run Tryd.prog W = .ok (.int .u8 (c0 : Int)) W := fun W => by rw [← hc0]; exact str_idx q .i64 0 hpos W
  have hsz : (str q).size = q.length := str_size q
  have hl9 : ¬ (9 : Int) < (q.length : Int) := by omega
  subst h48
  clear hne hh hc0 head_of head_ne
  by_cases h1 : 1 < (q.length : Int)
  all_goals
    go_enter Tryd.func42, Tryd.ntmps42
    go_wp2
    go_ret2
    exact ⟨rfl, rfl⟩
set_option maxHeartbeats 1000000 in
theorem number_pos (q : Bs) (w : World) (hne : q ≠ []) (hm : q.head? ≠ some 45) (hlen : q.length ≤ 9) (hh : q.head? = some 48 → q.length = 1) : Calls Tryd.prog 42 #[.string (str q)] w fun e w' => e = .returned (numV ((Fm.digs 0 q).map (fun u : Nat => (u : Int)))) ∧ w = w' := by
  have hpos : 0 < q.length := List.length_pos_iff.2 hne
  have e2 : ((str q).toList == []) = false := by rw [str_toList]; cases q <;> simp at hne ⊢
  obtain ⟨c0, hc0⟩ : ∃ c0 : Nat, q[0].toNat = c0 := ⟨_, rfl⟩
  have head_of : ∀ x : UInt8, q.head? = some x → c0 = x.toNat := by
    intro x hx
    rw [List.head?_eq_getElem?, List.getElem?_eq_getElem hpos, Option.some.injEq] at hx
    rw [← hc0, hx]
  have head_ne : ∀ x : UInt8, q.head? ≠ some x → c0 ≠ x.toNat := by
    intro x hx e
    apply hx
    rw [List.head?_eq_getElem?, List.getElem?_eq_getElem hpos, Option.some.injEq]
    apply UInt8.toNat.inj
    rw [hc0, e]
  have n45 : c0 ≠ 45 := head_ne 45 hm
  have b45 : ((c0 : Int) == 45) = false := by simp only [beq_eq_false_iff_ne, ne_eq]; omega
  have i2 : ∀ W : World, (Instr.index 9 (.string (str q)) (.int .i64 0)).run Tryd.prog W = .ok (.int .u8 (c0 : Int)) W := fun W => by rw [← hc0]; exact str_idx q .i64 0 hpos W
  have hsz : (str q).size = q.length := str_size q
  have hl9 : ¬ (9 : Int) < (q.length : Int) := by omega
  have h48 : (((c0 : Int) == 48) = true ∧ ¬ 1 < (q.length : Int)) ∨ ((c0 : Int) == 48) = false := by
    by_cases h : q.head? = some 48
    · left
      have : c0 = 48 := head_of 48 h
      have := hh h
      simp only [beq_iff_eq]
      refine ⟨by omega, by omega⟩
    · right
      have : c0 ≠ 48 := head_ne 48 h
      simp only [beq_eq_false_iff_ne, ne_eq]
      omega
  clear hc0 hne hh hm head_of head_ne n45
  rcases h48 with ⟨b48, h1⟩ | b48
  all_goals
    go_enter Tryd.func42, Tryd.ntmps42
    go_wp2
    go_loop [5, 6] (fun x i => ∃ k u : Nat, k ≤ q.length ∧ i = .int .i64 k ∧ x = .int .i64 u ∧ Fm.digs 0 (q.take k) = some u)
      (fun _ i => q.length - (intOf i).toNat)
    case atStart => exact ⟨0, 0, Nat.zero_le _, rfl, rfl, by simp [Fm.digs]⟩
    case round =>
      obtain ⟨k, u, hk, rfl, rfl, hd⟩ := hrel
      have hu : u < 1000000000 := by
        have h1 := digs_lt _ _ _ hd
        have h2 : (10 : Nat) ^ (q.take k).length ≤ 10 ^ 9 := Nat.pow_le_pow_right (by omega) (by rw [List.length_take]; omega)
        omega
      have HD : Hid (Fm.digs 0 (q.take k) = some u) := hd
      clear hd
      by_cases hlt : k < q.length
      · obtain ⟨ck, hck⟩ : ∃ ck : Nat, q[k].toNat = ck := ⟨_, rfl⟩
        have hckb : ck < 256 := hck ▸ Fm.byte_lt _
        have ik : ∀ W : World, (Instr.index 9 (.string (str q)) (.int .i64 (k : Int))).run Tryd.prog W = .ok (.int .u8 (ck : Int)) W := fun W => by rw [← hck]; exact str_idx q .i64 k hlt W
        have HS := digs_step q k u hlt HD.out
        rw [hck] at HS
        have HS' := Lib.hid HS
        clear HS hck
        by_cases hdig : 48 ≤ ck ∧ ck ≤ 57
        · obtain ⟨hd1, hd2⟩ := hdig
          go_wp2
          go_round
          case rel => exact ⟨k + 1, 10 * u + (ck - 48), by omega, by go_num, by go_num, HS'.out.1 ⟨hd1, hd2⟩⟩
          case measure => simp [intOf]; omega
        · have HN : Hid (Fm.digs 0 q = none) := HS'.out.2 hdig
          rcases (by omega : ck < 48 ∨ 57 < ck) with h1 | h1
          all_goals
            go_wp2
            go_ret2
            exact ⟨by rw [HN.out]; rfl, rfl⟩
      · obtain rfl : k = q.length := by omega
        have HD' : Hid (Fm.digs 0 q = some u) := by have := HD.out; rwa [List.take_of_length_le (Nat.le_refl _)] at this
        go_wp2
        go_ret2
        exact ⟨by rw [HD'.out]; rfl, rfl⟩
set_option maxHeartbeats 1000000 in
theorem number_bad4 (q : Bs) (w : World) (hm : q.head? ≠ some 45) (hlen : 9 < q.length) : Calls Tryd.prog 42 #[.string (str q)] w fun e w' => e = .returned (numV none) ∧ w = w' := by
  have hne : q ≠ [] := by rintro rfl; simp at hlen
  have hpos : 0 < q.length := List.length_pos_iff.2 hne
  have e2 : ((str q).toList == []) = false := by rw [str_toList]; cases q <;> simp at hne ⊢
  obtain ⟨c0, hc0⟩ : ∃ c0 : Nat, q[0].toNat = c0 := ⟨_, rfl⟩
  have head_of : ∀ x : UInt8, q.head? = some x → c0 = x.toNat := by
    intro x hx
    rw [List.head?_eq_getElem?, List.getElem?_eq_getElem hpos, Option.some.injEq] at hx
    rw [← hc0, hx]
  have head_ne : ∀ x : UInt8, q.head? ≠ some x → c0 ≠ x.toNat := by
    intro x hx e
    apply hx
    rw [List.head?_eq_getElem?, List.getElem?_eq_getElem hpos, Option.some.injEq]
    apply UInt8.toNat.inj
    rw [hc0, e]
  have n45 : c0 ≠ 45 := head_ne 45 hm
  have b45 : ((c0 : Int) == 45) = false := by simp only [beq_eq_false_iff_ne, ne_eq]; omega
  have i2 : ∀ W : World, (Instr.index 9 (.string (str q)) (.int .i64 0)).run Tryd.prog W = .ok (.int .u8 (c0 : Int)) W := fun W => by rw [← hc0]; exact str_idx q .i64 0 hpos W
  have hsz : (str q).size = q.length := str_size q
  have hl9 : (9 : Int) < (q.length : Int) := by omega
  clear hc0 hne hm head_of head_ne n45
  go_enter Tryd.func42, Tryd.ntmps42
  go_wp2
  go_ret2
  exact ⟨rfl, rfl⟩
set_option maxHeartbeats 1000000 in
theorem number_bad5 (q : Bs) (w : World) (hh : q.head? = some 48) (hlen : q.length ≤ 9) (h1 : 1 < q.length) : Calls Tryd.prog 42 #[.string (str q)] w fun e w' => e = .returned (numV none) ∧ w = w' := by
  have hne : q ≠ [] := by rintro rfl; simp at hlen h1
  have hpos : 0 < q.length := List.length_pos_iff.2 hne
  have e2 : ((str q).toList == []) = false := by rw [str_toList]; cases q <;> simp at hne ⊢
  obtain ⟨c0, hc0⟩ : ∃ c0 : Nat, q[0].toNat = c0 := ⟨_, rfl⟩
  have head_of : ∀ x : UInt8, q.head? = some x → c0 = x.toNat := by
    intro x hx
    rw [List.head?_eq_getElem?, List.getElem?_eq_getElem hpos, Option.some.injEq] at hx
    rw [← hc0, hx]
  have head_ne : ∀ x : UInt8, q.head? ≠ some x → c0 ≠ x.toNat := by
    intro x hx e
    apply hx
    rw [List.head?_eq_getElem?, List.getElem?_eq_getElem hpos, Option.some.injEq]
    apply UInt8.toNat.inj
    rw [hc0, e]
  have h48 : c0 = 48 := head_of 48 hh
  have b45 : ((c0 : Int) == 45) = false := by simp only [beq_eq_false_iff_ne, ne_eq]; omega
  have b48 : ((c0 : Int) == 48) = true := by simp only [beq_iff_eq]; omega
  have i2 : ∀ W : World, (Instr.index 9 (.string (str q)) (.int .i64 0)).run Tryd.prog W = .ok (.int .u8 (c0 : Int)) W := fun W => by rw [← hc0]; exact str_idx q .i64 0 hpos W
  have hsz : (str q).size = q.length := str_size q
  have hl9 : ¬ (9 : Int) < (q.length : Int) := by omega
  have hl1 : (1 : Int) < (q.length : Int) := by omega
  subst h48
  clear hc0 hne hh head_of head_ne h1
  go_enter Tryd.func42, Tryd.ntmps42
  go_wp2
  go_ret2
  exact ⟨rfl, rfl⟩

/-- number: the whole. -/
theorem number_any (s : Bs) (w : World) : Calls Tryd.prog 42 #[.string (str s)] w fun e w' => e = .returned (numV (Fm.number s)) ∧ w = w' := by
  unfold Fm.number
  by_cases h45 : s.head? = some 45
  · rw [if_pos h45]
    obtain ⟨q, rfl⟩ : ∃ q, s = 45 :: q := by
      cases s with
      | nil => cases h45
      | cons c r => simp only [List.head?_cons, Option.some.injEq] at h45; exact ⟨r, by rw [h45]⟩
    simp only [List.tail_cons]
    unfold Fm.numberU
    by_cases h : q = [] ∨ 9 < q.length ∨ q.head? = some 48 ∧ (1 < q.length ∨ true = true)
    · rw [if_pos h]
      by_cases h1 : q = []
      · subst h1; exact number_bad1 w
      · by_cases h2 : 9 < q.length
        · exact number_bad2 q w h2
        · rcases h with h | h | h
          · exact absurd h h1
          · exact absurd h h2
          · exact number_bad3 q w (by omega) h.1
    · rw [if_neg h]
      simp only [not_or, not_and] at h
      exact number_neg q w h.1 (by omega) (fun e => (h.2.2 e).2 trivial)
  · rw [if_neg h45]
    unfold Fm.numberU
    by_cases h : s = [] ∨ 9 < s.length ∨ s.head? = some 48 ∧ (1 < s.length ∨ false = true)
    · rw [if_pos h]
      by_cases h1 : s = []
      · subst h1; exact number_empty w
      · by_cases h2 : 9 < s.length
        · exact number_bad4 s w h45 h2
        · rcases h with h | h | h
          · exact absurd h h1
          · exact absurd h h2
          · exact number_bad5 s w h.1 (by omega) (by simpa using h.2)
    · rw [if_neg h]
      simp only [not_or, not_and] at h
      refine number_pos s w h.1 h45 (by omega) (fun e => ?_)
      have h3 := (h.2.2 e).1
      have : 0 < s.length := List.length_pos_iff.2 h.1
      omega
end Go.Proofs.YtjcbfbdbgplakaaDoor
