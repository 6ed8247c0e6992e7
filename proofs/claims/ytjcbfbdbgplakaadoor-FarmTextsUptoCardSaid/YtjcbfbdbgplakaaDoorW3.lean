/-
  WALKS: hex, keep, words of the references; readHex, readKept of the program.
-/
import Derived.Test.YtjcbfbdbgplakaaDoorAid
import Derived.Test.YtjcbfbdbgplakaaDoorW1
namespace Go.Proofs.YtjcbfbdbgplakaaDoor
open Go.RowKit
open Fm (Bs Mv)

theorem hexP_append : ∀ (a b r : Bs), Fm.hexP a = some b → Fm.hexP (a ++ r) = (Fm.hexP r).map (b ++ ·)
  | [], b, r, h => by simp only [Fm.hexP, Option.some.injEq] at h; subst h; simp
  | [x], b, r, h => by simp [Fm.hexP] at h
  | x :: y :: a, b, r, h => by
    simp only [Fm.hexP] at h
    split at h
    · cases h
    · rename_i hc
      cases ha : Fm.hexP a with
      | none => rw [ha] at h; cases h
      | some t =>
        rw [ha] at h
        simp only [Option.map_some, Option.some.injEq] at h
        subst h
        simp only [List.cons_append, Fm.hexP]
        rw [if_neg hc, hexP_append a t r ha]
        cases Fm.hexP r <;> simp
theorem hexP_len : ∀ (a b : Bs), Fm.hexP a = some b → a.length = 2 * b.length
  | [], b, h => by simp only [Fm.hexP, Option.some.injEq] at h; subst h; rfl
  | [x], b, h => by simp [Fm.hexP] at h
  | x :: y :: a, b, h => by
    simp only [Fm.hexP] at h
    split at h
    · cases h
    · cases ha : Fm.hexP a with
      | none => rw [ha] at h; cases h
      | some t =>
        rw [ha] at h
        simp only [Option.map_some, Option.some.injEq] at h
        subst h
        have := hexP_len a t ha
        simp only [List.length_cons]
        omega
theorem hexP_odd : ∀ (a : Bs), a.length % 2 ≠ 0 → Fm.hexP a = none
  | [], h => by simp at h
  | [x], _ => rfl
  | x :: y :: a, h => by
    simp only [Fm.hexP]
    rw [hexP_odd a (by simp only [List.length_cons] at h; omega)]
    simp
theorem take_two (s : Bs) (j : Nat) (h : j + 1 < s.length) : s.take (j + 2) = s.take j ++ [s[j], s[j + 1]] := by
  rw [List.take_succ_eq_append_getElem (i := j + 1) h, List.take_succ_eq_append_getElem (i := j) (by omega), List.append_assoc]
  rfl
theorem drop_two (s : Bs) (j : Nat) (h : j + 1 < s.length) : s = s.take j ++ s[j] :: s[j + 1] :: s.drop (j + 2) := by
  conv => lhs; rw [← List.take_append_drop j s]
  rw [List.drop_eq_getElem_cons (by omega), List.drop_eq_getElem_cons h]
theorem hex_step (s b : Bs) (j : Nat) (h : j + 1 < s.length) (hb : Fm.hexP (s.take j) = some b) :
    (¬ (Fm.digit s[j] < 0 ∨ Fm.digit s[j + 1] < 0) → Fm.hexP (s.take (j + 2)) = some (b ++ [UInt8.ofNat (16 * Fm.digit s[j] + Fm.digit s[j + 1]).toNat])) ∧
    ((Fm.digit s[j] < 0 ∨ Fm.digit s[j + 1] < 0) → Fm.hexP s = none) := by
  refine ⟨fun hc => ?_, fun hc => ?_⟩
  · rw [take_two s j h, hexP_append _ b _ hb]
    simp only [Fm.hexP]
    rw [if_neg hc]
    rfl
  · rw [drop_two s j h, hexP_append _ b _ hb]
    simp only [Fm.hexP]
    rw [if_pos hc]
    rfl

def HexPost (s : Bs) (w : World) (e : Ending) (w' : World) : Prop :=
  (Fm.hex s = none ∧ e = .returned (.tuple #[.slice none 0 0, .bool false]) ∧ Below w.heap.size w w') ∨
  ∃ b A c, Fm.hex s = some b ∧ e = .returned (.tuple #[.slice A b.length c, .bool true]) ∧ Bytes w' w'.heap.size A b ∧ Fr w.heap.size A ∧ Below w.heap.size w w'

set_option maxRecDepth 100000 in
set_option maxHeartbeats 2000000 in
theorem hexR_any (s : Bs) (w : World) (hl : s.length ≤ 1048576) : Calls Tryd.prog 40 #[.string (str s)] w (HexPost s w) := by
  by_cases hbad : s = [] ∨ s.length % 2 ≠ 0
  · have hn : Fm.hex s = none := by
      unfold Fm.hex
      by_cases h0 : s = []
      · rw [if_pos h0]
      · rw [if_neg h0]
        exact hexP_odd s (hbad.resolve_left h0)
    have HN := Lib.hid hn
    have hsz : (str s).size = s.length := str_size s
    clear hn
    by_cases h0 : s = []
    · subst h0
      have e1 : ((str []).toList == []) = true := by rw [str_toList]; rfl
      have e2 : (str []).toList = [] := str_toList []
      go_enter Tryd.func40, Tryd.ntmps40
      go_wp2
      go_ret2
      exact .inl ⟨HN.out, rfl, Below.refl _ _⟩
    · have h2 := hbad.resolve_left h0
      have e1 : ((str s).toList == []) = false := by rw [str_toList]; cases s <;> simp at h0 ⊢
      have e3 : (((s.length : Int) % 2) != 0) = true := by rw [bne_iff_ne]; omega
      clear h0 hbad
      go_enter Tryd.func40, Tryd.ntmps40
      go_wp2
      go_ret2
      exact .inl ⟨HN.out, rfl, Below.refl _ _⟩
  · simp only [not_or, Classical.not_not] at hbad
    obtain ⟨h0, h2⟩ := hbad
    obtain ⟨i0, hi, hz0, hz1, hz2⟩ := info_parts info5
    have hhex : Fm.hex s = Fm.hexP s := by unfold Fm.hex; rw [if_neg h0]
    have HX := Lib.hid hhex
    have hsz : (str s).size = s.length := str_size s
    have e1 : ((str s).toList == []) = false := by rw [str_toList]; cases s <;> simp at h0 ⊢
    have e3 : (((s.length : Int) % 2) != 0) = false := by simp only [bne_eq_false_iff_eq]; omega
    have H2 := Lib.hid h2
    clear h0 h2 hhex
    go_enter Tryd.func40, Tryd.ntmps40
    go_wp2
    go_loopw [4, 5, 6, 7] (fun v i _ _ wr => ∃ (j : Nat) (b : Bs) (g : Option Addr) (cp : Nat), j ≤ s.length ∧ i = .int .i64 j ∧ v = .slice g b.length cp ∧ Fm.hexP (s.take j) = some b ∧ wr.ownsRow w.heap.size 5 1 (.slice g b.length cp) b.length (u8s b) ∧ Below w.heap.size w wr)
      (fun _ i _ _ _ => s.length - (intOf i).toNat)
    case atStart => exact ⟨0, [], none, 0, Nat.zero_le _, rfl, rfl, rfl, World.ownsRow_nil _ _ _ _, Below.refl _ _⟩
    case round =>
      obtain ⟨j, b, g, cp, hj, rfl, rfl, hP, hown, hb⟩ := hrel
      have HP := Lib.hid hP
      clear hP
      by_cases hlt : j < s.length
      · have hjb : j = 2 * b.length := by have := hexP_len _ _ HP.out; rw [List.length_take] at this; omega
        have hlt2 : j + 1 < s.length := by have := H2.out; omega
        have hbl : b.length ≤ 1048576 := by omega
        clear hjb
        have HS := Lib.hid (hex_step s b j hlt2 HP.out)
        obtain ⟨x, hx⟩ : ∃ x, s[j] = x := ⟨_, rfl⟩
        obtain ⟨y, hy⟩ : ∃ y, s[j + 1] = y := ⟨_, rfl⟩
        have ix : ∀ W : World, (Instr.index 9 (.string (str s)) (.int .i64 (j : Int))).run Tryd.prog W = .ok (.int .u8 (x.toNat : Int)) W := fun W => by rw [← hx]; exact str_idx s .i64 j hlt W
        have iy : ∀ W : World, (Instr.index 9 (.string (str s)) (.int .i64 ((j : Int) + 1))).run Tryd.prog W = .ok (.int .u8 (y.toNat : Int)) W := fun W => by rw [← hy]; exact str_idx s .i64 (j + 1) hlt2 W
        rw [hx, hy] at HS
        clear hx hy
        have hxb := UInt8.toNat_lt x
        have hyb := UInt8.toNat_lt y
        obtain ⟨dx, hdx⟩ : ∃ dx, Fm.digit x = dx := ⟨_, rfl⟩
        obtain ⟨dy, hdy⟩ : ∃ dy, Fm.digit y = dy := ⟨_, rfl⟩
        have cx := digit_any x
        have cy := digit_any y
        rw [hdx] at cx HS
        rw [hdy] at cy HS
        have bx : -1 ≤ dx ∧ dx < 16 := by rw [← hdx]; unfold Fm.digit; split <;> (try split) <;> omega
        have by_ : -1 ≤ dy ∧ dy < 16 := by rw [← hdy]; unfold Fm.digit; split <;> (try split) <;> omega
        obtain ⟨bx1, bx2⟩ := bx
        obtain ⟨by1, by2⟩ := by_
        have CX := Lib.hid cx
        have CY := Lib.hid cy
        clear cx cy hdx hdy
        go_wp2_with fail
        refine (CX.out _).mono ?_
        rintro e w' ⟨rfl, rfl⟩
        go_wp2_with fail
        refine (CY.out _).mono ?_
        rintro e w' ⟨rfl, rfl⟩
        by_cases hd : dx < 0 ∨ dy < 0
        · have HN := Lib.hid (HS.out.2 hd)
          rcases hd with hd | hd
          · go_wp2
            go_ret2
            exact .inl ⟨HX.out.trans HN.out, rfl, hb⟩
          · by_cases hdx : dx < 0
            all_goals
              go_wp2
              go_ret2
              exact .inl ⟨HX.out.trans HN.out, rfl, hb⟩
        · have HN := Lib.hid (HS.out.1 hd)
          have hd1 : 0 ≤ dx := by omega
          have hd2 : 0 ≤ dy := by omega
          clear hd
          go_wp2_with (at_builtin; refine wpList_append_lies _ rfl _ _ 32 rfl w.heap.size 5 i0 (.int .u8 0) 1 1 Tryd.underlying32 hi hz0 hz1 hz2 rfl (by decide) _ _ _ rfl (hown.alloc _) ⟨wr.heap.size, 0, none⟩ 1 1 [_] rfl rfl (one_cell _ _ _) (u8_one _) (by decide) (by unfold maxLen; omega) (by omega) (by have := hb.size; simp; omega) _ rfl ?_)
          intro g1 cap w1 hown' hgrow _ _
          have hb1 : Below w.heap.size w w1 := (hb.alloc hb.size _).grown hgrow (by have := hb.size; simp; omega) (fun i hi => (hown.lt i hi).1)
          go_wp2
          go_roundw
          case rel =>
            refine ⟨j + 2, b ++ [UInt8.ofNat (16 * dx + dy).toNat], some ⟨g1, 0, none⟩, cap, by omega, by go_num, ?_, HN.out, ?_, hb1⟩
            · rw [List.length_append, List.length_singleton]
            · rw [List.length_append, List.length_singleton]
              have e : ((UInt8.ofNat (16 * dx + dy).toNat).toNat : Int) = 16 * dx + dy := by simp only [UInt8.toNat_ofNat']; omega
              have : u8s (b ++ [UInt8.ofNat (16 * dx + dy).toNat]) = u8s b ++ [.int .u8 (16 * dx + dy)] := by unfold u8s; rw [List.map_append, List.map_singleton, e]
              rw [this]
              exact hown'
          case measure => simp [intOf]; omega
      · obtain rfl : j = s.length := by omega
        have HP' : Hid (Fm.hexP s = some b) := by have := HP.out; rwa [List.take_of_length_le (Nat.le_refl _)] at this
        have hbs : Bytes wr wr.heap.size g b := Rd.of_own hown
        go_wp2
        go_ret2
        exact .inr ⟨b, g, cp, HX.out.trans HP'.out, rfl, hbs, Fr.own hown, hb⟩

/-! readKept -/
set_option maxRecDepth 100000 in
set_option maxHeartbeats 1000000 in
theorem readKept_any (s : Bs) (w : World) (hl : s.length ≤ 1048576) :
    Calls Tryd.prog 30 #[.string (str s)] w (BoolsPost (Fm.readKept s) w) := by
  obtain ⟨i0, hi, hz0, hz1, hz2⟩ := info_parts info4
  have hsz : (str s).size = s.length := str_size s
  by_cases h45 : s = [45]
  · subst h45
    have e1 : ((str [45]).toList == [45]) = true := by rw [str_toList]; rfl
    have e2 : (str [45]).toList = [45] := str_toList _
    have hsz' : (str [45]).size = 1 := str_size _
    clear hsz
    go_enter Tryd.func30, Tryd.ntmps30
    go_wp2
    refine wp_loop_rounds 1 ?_
    rw [rounds_succ]
    go_wp2
    go_ret
    exact ⟨none, 0, rfl, Rd.nil, Fr.none_ _, Below.refl _ _⟩
  · have hr : Fm.readKept s = s.map (fun c => decide (c = 49)) := by unfold Fm.readKept; rw [if_neg h45]
    have HR := Lib.hid hr
    have e1 : ((str s).toList == [45]) = false := by rw [str_toList]; simpa using h45
    clear hr h45
    go_enter Tryd.func30, Tryd.ntmps30
    go_wp2
    go_loopw [3, 4] (fun v i wr => ∃ (k : Nat) (g : Option Addr) (cp : Nat), k ≤ s.length ∧ i = .int .i64 k ∧ v = .slice g k cp ∧ wr.ownsRow w.heap.size 4 1 (.slice g k cp) k (bls ((s.map (fun c => decide (c = 49))).take k)) ∧ Below w.heap.size w wr)
      (fun _ i _ => s.length - (intOf i).toNat)
    case atStart => exact ⟨0, none, 0, Nat.zero_le _, rfl, rfl, World.ownsRow_nil _ _ _ _, Below.refl _ _⟩
    case round =>
      obtain ⟨k, g, cp, hk, rfl, rfl, hown, hb⟩ := hrel
      by_cases hlt : k < s.length
      · obtain ⟨x, hx⟩ : ∃ x, s[k] = x := ⟨_, rfl⟩
        have ix : ∀ W : World, (Instr.index 9 (.string (str s)) (.int .i64 (k : Int))).run Tryd.prog W = .ok (.int .u8 (x.toNat : Int)) W := fun W => by rw [← hx]; exact str_idx s .i64 k hlt W
        have HXx := Lib.hid hx
        clear hx
        obtain ⟨q, hq⟩ : ∃ q : Bool, ((x.toNat : Int) == 49) = q := ⟨_, rfl⟩
        have hq2 : decide (x = 49) = q := by
          rw [← hq, Bool.eq_iff_iff]
          simp only [decide_eq_true_eq, beq_iff_eq]
          constructor
          · rintro rfl; rfl
          · intro h
            apply UInt8.toNat.inj
            show x.toNat = 49
            omega
        have HQ := Lib.hid hq2
        clear hq2
        go_wp2_with (at_builtin; refine wpList_append_lies _ rfl _ _ 35 rfl w.heap.size 4 i0 (.bool false) 1 1 Tryd.underlying35 hi hz0 hz1 hz2 rfl (by decide) _ _ _ rfl (hown.alloc _) ⟨wr.heap.size, 0, none⟩ 1 1 [_] rfl rfl (one_cell _ _ _) (bl_one _) (by decide) (by unfold maxLen; omega) (by omega) (by have := hb.size; simp; omega) _ rfl ?_)
        intro g1 cap w1 hown' hgrow _ _
        have hb1 : Below w.heap.size w w1 := (hb.alloc hb.size _).grown hgrow (by have := hb.size; simp; omega) (fun i hi => (hown.lt i hi).1)
        go_wp2
        go_roundw
        case rel =>
          refine ⟨k + 1, _, _, by omega, by go_num, rfl, ?_, hb1⟩
          rw [List.take_succ_eq_append_getElem (by simpa using hlt), bls_snoc, List.getElem_map, HXx.out, HQ.out]
          exact hown'
        case measure => simp [intOf]; omega
      · obtain rfl : k = s.length := by omega
        rw [List.take_of_length_le (by simp)] at hown
        have hbs : Bools wr wr.heap.size g (s.map (fun c => decide (c = 49))) := by have := Rd.of_own hown; unfold Bools; rw [List.length_map]; exact this
        go_wp2
        go_ret
        exact ⟨g, cp, by rw [HR.out, List.length_map]; rfl, by rw [HR.out]; exact hbs, Fr.own hown, hb⟩

/-! keep -/
theorem keepP_append : ∀ (a : Bs) (l : List Bool) (r : Bs), Fm.keepP a = some l → Fm.keepP (a ++ r) = (Fm.keepP r).map (l ++ ·)
  | [], l, r, h => by simp only [Fm.keepP, Option.some.injEq] at h; subst h; simp
  | c :: a, l, r, h => by
    simp only [Fm.keepP] at h
    split at h
    · rename_i hc
      cases ha : Fm.keepP a with
      | none => rw [ha] at h; cases h
      | some t =>
        rw [ha] at h
        simp only [Option.map_some, Option.some.injEq] at h
        subst h
        simp only [List.cons_append, Fm.keepP]
        rw [if_pos hc, keepP_append a t r ha]
        cases Fm.keepP r <;> simp
    · cases h
theorem keepP_len : ∀ (a : Bs) (l : List Bool), Fm.keepP a = some l → l.length = a.length
  | [], l, h => by simp only [Fm.keepP, Option.some.injEq] at h; subst h; rfl
  | c :: a, l, h => by
    simp only [Fm.keepP] at h
    split at h
    · cases ha : Fm.keepP a with
      | none => rw [ha] at h; cases h
      | some t =>
        rw [ha] at h
        simp only [Option.map_some, Option.some.injEq] at h
        subst h
        simp [keepP_len a t ha]
    · cases h
theorem keep_step (s : Bs) (l : List Bool) (j : Nat) (h : j < s.length) (hb : Fm.keepP (s.take j) = some l) :
    ((s[j] = 48 ∨ s[j] = 49) → Fm.keepP (s.take (j + 1)) = some (l ++ [decide (s[j] = 49)])) ∧ (¬ (s[j] = 48 ∨ s[j] = 49) → Fm.keepP s = none) := by
  refine ⟨fun hc => ?_, fun hc => ?_⟩
  · rw [List.take_succ_eq_append_getElem h, keepP_append _ l _ hb]
    simp only [Fm.keepP]
    rw [if_pos hc]
    rfl
  · rw [← List.take_append_drop j s, keepP_append _ l _ hb, List.drop_eq_getElem_cons h]
    simp only [Fm.keepP]
    rw [if_neg hc]
    rfl
def KeepPost (s : Bs) (w : World) (e : Ending) (w' : World) : Prop :=
  (Fm.keep s = none ∧ e = .returned (.tuple #[.slice none 0 0, .bool false]) ∧ Below w.heap.size w w') ∨
  ∃ l A c, Fm.keep s = some l ∧ e = .returned (.tuple #[.slice A l.length c, .bool true]) ∧ Bools w' w'.heap.size A l ∧ Fr w.heap.size A ∧ Below w.heap.size w w'

set_option maxRecDepth 100000 in
set_option maxHeartbeats 1000000 in
theorem keepR_any (s : Bs) (w : World) (hl : s.length ≤ 1048576) : Calls Tryd.prog 41 #[.string (str s)] w (KeepPost s w) := by
  obtain ⟨i0, hi, hz0, hz1, hz2⟩ := info_parts info4
  have hsz : (str s).size = s.length := str_size s
  by_cases h45 : s = [45]
  · subst h45
    have e1 : ((str [45]).toList == [45]) = true := by rw [str_toList]; rfl
    have e2 : (str [45]).toList = [45] := str_toList _
    go_enter Tryd.func41, Tryd.ntmps41
    go_wp2
    go_ret2
    exact .inr ⟨[], none, 0, rfl, rfl, Rd.nil, Fr.none_ _, Below.refl _ _⟩
  · have e1 : ((str s).toList == [45]) = false := by rw [str_toList]; simpa using h45
    have hk : Fm.keep s = if s = [] then none else Fm.keepP s := by unfold Fm.keep; rw [if_neg h45]
    have HK := Lib.hid hk
    clear h45 hk
    go_enter Tryd.func41, Tryd.ntmps41
    go_wp2
    go_loopw [4, 5] (fun v i wr => ∃ (k : Nat) (l : List Bool) (g : Option Addr) (cp : Nat), k ≤ s.length ∧ i = .int .i64 k ∧ v = .slice g k cp ∧ Fm.keepP (s.take k) = some l ∧ wr.ownsRow w.heap.size 4 1 (.slice g k cp) k (bls l) ∧ Below w.heap.size w wr ∧ (k = 0 → g = none ∧ cp = 0))
      (fun _ i _ => s.length - (intOf i).toNat)
    case atStart => exact ⟨0, [], none, 0, Nat.zero_le _, rfl, rfl, rfl, World.ownsRow_nil _ _ _ _, Below.refl _ _, fun _ => ⟨rfl, rfl⟩⟩
    case round =>
      obtain ⟨k, l, g, cp, hk, rfl, rfl, hP, hown, hb, hnil⟩ := hrel
      have HP := Lib.hid hP
      have HNL := Lib.hid hnil
      clear hP hnil
      by_cases hlt : k < s.length
      · obtain ⟨x, hx⟩ : ∃ x, s[k] = x := ⟨_, rfl⟩
        have ix : ∀ W : World, (Instr.index 9 (.string (str s)) (.int .i64 (k : Int))).run Tryd.prog W = .ok (.int .u8 (x.toNat : Int)) W := fun W => by rw [← hx]; exact str_idx s .i64 k hlt W
        have HS := Lib.hid (keep_step s l k hlt HP.out)
        rw [hx] at HS
        have hne : s ≠ [] := by rintro rfl; simp at hlt
        have HNE := Lib.hid hne
        clear hx hne
        by_cases hc : x = 48 ∨ x = 49
        · have HN := Lib.hid (HS.out.1 hc)
          clear HS
          obtain ⟨q, hq⟩ : ∃ q : Bool, decide (x = 49) = q := ⟨_, rfl⟩
          rw [hq] at HN
          have b1 : ((x.toNat : Int) == 49) = q := by
            rw [← hq, Bool.eq_iff_iff]
            simp only [decide_eq_true_eq, beq_iff_eq, u8_eq]
            show (x.toNat : Int) = 49 ↔ x.toNat = 49
            omega
          have b3 : ((x.toNat : Int) != 49) = !q := by rw [bne, b1]
          have b2 : ((x.toNat : Int) != 48) = q := by
            rw [← hq, Bool.eq_iff_iff]
            simp only [decide_eq_true_eq, bne_iff_ne, u8_eq]
            simp only [u8_eq] at hc
            have e1 : (48 : UInt8).toNat = 48 := rfl
            have e2 : (49 : UInt8).toNat = 49 := rfl
            rw [e1, e2] at hc
            rw [e2]
            omega
          clear hq hc
          cases q
          all_goals
            go_wp2_with (at_builtin; refine wpList_append_lies _ rfl _ _ 35 rfl w.heap.size 4 i0 (.bool false) 1 1 Tryd.underlying35 hi hz0 hz1 hz2 rfl (by decide) _ _ _ rfl (hown.alloc _) ⟨wr.heap.size, 0, none⟩ 1 1 [_] rfl rfl (one_cell _ _ _) (bl_one _) (by decide) (by unfold maxLen; omega) (by omega) (by have := hb.size; simp; omega) _ rfl ?_)
            intro g1 cap w1 hown' hgrow _ _
            have hb1 : Below w.heap.size w w1 := (hb.alloc hb.size _).grown hgrow (by have := hb.size; simp; omega) (fun i hi => (hown.lt i hi).1)
            go_wp2
            go_roundw
            case rel =>
              refine ⟨k + 1, _, _, _, by omega, by go_num, rfl, HN.out, ?_, hb1, by omega⟩
              rw [bls_snoc]
              exact hown'
            case measure => simp [intOf]; omega
        · have HN := Lib.hid (HS.out.2 hc)
          clear HS
          have e8 : (48 : UInt8).toNat = 48 := rfl
          have e9 : (49 : UInt8).toNat = 49 := rfl
          have b1 : ((x.toNat : Int) != 48) = true := by rw [bne_iff_ne]; intro h; exact hc (.inl ((u8_eq _ _).2 (by rw [e8]; omega)))
          have b2 : ((x.toNat : Int) != 49) = true := by rw [bne_iff_ne]; intro h; exact hc (.inr ((u8_eq _ _).2 (by rw [e9]; omega)))
          clear hc e8 e9
          go_wp2
          go_ret2
          exact .inl ⟨by rw [HK.out, if_neg HNE.out, HN.out], rfl, hb⟩
      · obtain rfl : k = s.length := by omega
        have hP : Fm.keepP s = some l := by have := HP.out; rwa [List.take_of_length_le (Nat.le_refl _)] at this
        have hll := keepP_len s l hP
        have HP' := Lib.hid hP
        have HL := Lib.hid hll
        have hbs : Rd wr wr.heap.size 1 g s.length (bls l) := Rd.of_own hown
        clear hP hll
        by_cases h0 : 0 < (s.length : Int)
        · go_wp2
          go_ret2
          refine .inr ⟨l, g, cp, by rw [HK.out, if_neg (by rintro rfl; simp at h0), HP'.out], by
            rw [HL.out]
            show Ending.returned (.tuple #[.slice g s.length cp, .bool (decide (0 < s.length))]) = _
            rw [show decide (0 < s.length) = true from by simp; omega], by unfold Bools; rw [HL.out]; exact hbs, Fr.own hown, hb⟩
        · go_wp2
          go_ret2
          obtain ⟨h1, h2⟩ := HNL.out (by omega)
          have h3 : s.length = 0 := by omega
          refine .inl ⟨by rw [HK.out, if_pos (List.eq_nil_of_length_eq_zero h3)], ?_, hb⟩
          subst h1
          subst h2
          show Ending.returned (.tuple #[.slice none s.length 0, .bool (decide (0 < s.length))]) = _
          rw [show decide (0 < s.length) = false from decide_eq_false (by omega), h3]

/-! words -/
theorem splitOn_snoc (c : UInt8) : ∀ (a : Bs) (x : UInt8), Fm.splitOn c (a ++ [x]) = if x = c then Fm.splitOn c a ++ [[]] else (Fm.splitOn c a).dropLast ++ [((Fm.splitOn c a).getLast?.getD []) ++ [x]]
  | [], x => by by_cases h : x = c <;> simp [Fm.splitOn, h]
  | y :: a, x => by
    have ih := splitOn_snoc c a x
    simp only [List.cons_append, Fm.splitOn]
    by_cases hy : y = c
    · rw [if_pos hy, if_pos hy, ih]
      by_cases hx : x = c
      · rw [if_pos hx, if_pos hx]; rfl
      · rw [if_neg hx, if_neg hx]
        cases hs : Fm.splitOn c a with
        | nil => exact absurd hs (Fm.splitOn_ne c a)
        | cons h t => simp [List.dropLast, List.getLast?_cons_cons]
    · rw [if_neg hy, if_neg hy, ih]
      cases hs : Fm.splitOn c a with
      | nil => exact absurd hs (Fm.splitOn_ne c a)
      | cons h t =>
        by_cases hx : x = c
        · rw [if_pos hx, if_pos hx]; rfl
        · rw [if_neg hx, if_neg hx]
          cases t with
          | nil => simp
          | cons h2 t2 => simp [List.dropLast, List.getLast?_cons_cons]

set_option maxRecDepth 100000 in
set_option maxHeartbeats 1000000 in
theorem words_any (s : Bs) (w : World) (hl : s.length ≤ 1048576) :
    Calls Tryd.prog 33 #[.string (str s)] w (StrsPost (Fm.splitOn 32 s) w) := by
  obtain ⟨i0, hi, hz0, hz1, hz2⟩ := info_parts info9
  have hsz : (str s).size = s.length := str_size s
  go_enter Tryd.func33, Tryd.ntmps33
  go_wp2
  go_loopw [3, 4, 5] (fun v a i wr => ∃ (k at' : Nat) (done : List Bs) (g : Option Addr) (cp : Nat), i = .int .i64 k ∧ a = .int .i64 at' ∧ v = .slice g done.length cp ∧ wr.ownsRow w.heap.size 9 1 (.slice g done.length cp) done.length (sts done) ∧ Below w.heap.size w wr ∧ done.length ≤ k ∧
      k ≤ s.length + 1 ∧ (k ≤ s.length → at' ≤ k ∧ done ++ [(s.take k).drop at'] = Fm.splitOn 32 (s.take k)) ∧ (k = s.length + 1 → done = Fm.splitOn 32 s))
    (fun _ _ i _ => s.length + 1 - (intOf i).toNat)
  case atStart => exact ⟨0, 0, [], none, 0, rfl, rfl, rfl, World.ownsRow_nil _ _ _ _, Below.refl _ _, Nat.le_refl _, by omega, fun _ => ⟨Nat.le_refl _, rfl⟩, by omega⟩
  case round =>
    obtain ⟨k, at', done, g, cp, rfl, rfl, rfl, hown, hb, hdl, hk, h1, h2⟩ := hrel
    have H1 := Lib.hid h1
    have H2 := Lib.hid h2
    clear h1 h2
    by_cases hle : k ≤ s.length
    · obtain ⟨hat, hsp⟩ := H1.out hle
      have HSP := Lib.hid hsp
      have cut := str_cut s at' k hat hle
      clear hsp
      obtain ⟨pc, hpc⟩ : ∃ pc, (s.take k).drop at' = pc := ⟨_, rfl⟩
      rw [hpc] at cut HSP
      have HPC := Lib.hid hpc
      clear hpc
      have finish : ∀ (v : Value) (w1 : World) (g1 cap : Nat), w1.ownsRow w.heap.size 9 1 (.slice (some ⟨g1, 0, none⟩) (done.length + 1) cap) (done.length + 1) (sts done ++ [.string (str pc)]) → w1.ownsRow w.heap.size 9 1 (.slice (some ⟨g1, 0, none⟩) (done ++ [pc]).length cap) (done ++ [pc]).length (sts (done ++ [pc])) := by
        intro v w1 g1 cap h
        rw [List.length_append, List.length_singleton, sts_snoc]
        exact h
      have FIN := Lib.hid finish
      clear finish
      by_cases hlt : k < s.length
      · have b0 : ((k : Int) == (s.length : Int)) = false := by simp only [beq_eq_false_iff_ne, ne_eq]; omega
        obtain ⟨x, hx⟩ : ∃ x, s[k] = x := ⟨_, rfl⟩
        have ix : ∀ W : World, (Instr.index 9 (.string (str s)) (.int .i64 (k : Int))).run Tryd.prog W = .ok (.int .u8 (x.toNat : Int)) W := fun W => by rw [← hx]; exact str_idx s .i64 k hlt W
        have hst := splitOn_snoc 32 (s.take k) x
        rw [← hx, ← List.take_succ_eq_append_getElem hlt, hx] at hst
        have HST := Lib.hid hst
        have HXx := Lib.hid hx
        clear hst hx
        by_cases hc : x = 32
        · have b1 : ((x.toNat : Int) == 32) = true := by rw [hc]; rfl
          have HC := Lib.hid hc
          clear hc
          go_wp2_with (at_builtin; refine wpList_append_lies _ rfl _ _ 68 rfl w.heap.size 9 i0 (.string ByteArray.empty) 1 16 Tryd.underlying68 hi hz0 hz1 hz2 rfl (by decide) _ _ _ rfl (hown.alloc _) ⟨wr.heap.size, 0, none⟩ 1 1 [_] rfl rfl (one_cell _ _ _) (st_one _) (by decide) (by unfold maxLen; omega) (by omega) (by have := hb.size; simp; omega) _ rfl ?_)
          intro g1 cap w1 hown' hgrow _ _
          have hb1 : Below w.heap.size w w1 := (hb.alloc hb.size _).grown hgrow (by have := hb.size; simp; omega) (fun i hi => (hown.lt i hi).1)
          go_wp2
          go_roundw
          case rel =>
            refine ⟨k + 1, k + 1, done ++ [pc], _, _, by go_num, by go_num, ?_, FIN.out (.bool true) _ _ _ hown', hb1, by simp; omega, by omega, fun _ => ⟨Nat.le_refl _, ?_⟩, by omega⟩
            · rw [List.length_append, List.length_singleton]
            · rw [HST.out, if_pos HC.out, HSP.out, List.drop_of_length_le (by rw [List.length_take]; omega)]
          case measure => simp [intOf]; omega
        · have b1 : ((x.toNat : Int) == 32) = false := by
            simp only [beq_eq_false_iff_ne, ne_eq]
            intro h
            exact hc ((u8_eq _ _).2 (by show x.toNat = 32; omega))
          have HC := Lib.hid hc
          clear hc
          go_wp2
          go_roundw
          case rel =>
            refine ⟨k + 1, at', done, g, cp, by go_num, rfl, rfl, hown, hb, by omega, by omega, fun _ => ⟨by omega, ?_⟩, by omega⟩
            rw [HST.out, if_neg HC.out, ← HSP.out, List.dropLast_concat, List.getLast?_concat]
            simp only [Option.getD_some]
            rw [← HPC.out, List.take_succ_eq_append_getElem hlt, List.drop_append_of_le_length (by rw [List.length_take]; omega), HXx.out]
          case measure => simp [intOf]; omega
      · obtain rfl : k = s.length := by omega
        have b0 : ((s.length : Int) == (s.length : Int)) = true := by simp
        go_wp2_with (at_builtin; refine wpList_append_lies _ rfl _ _ 68 rfl w.heap.size 9 i0 (.string ByteArray.empty) 1 16 Tryd.underlying68 hi hz0 hz1 hz2 rfl (by decide) _ _ _ rfl (hown.alloc _) ⟨wr.heap.size, 0, none⟩ 1 1 [_] rfl rfl (one_cell _ _ _) (st_one _) (by decide) (by unfold maxLen; omega) (by omega) (by have := hb.size; simp; omega) _ rfl ?_)
        intro g1 cap w1 hown' hgrow _ _
        have hb1 : Below w.heap.size w w1 := (hb.alloc hb.size _).grown hgrow (by have := hb.size; simp; omega) (fun i hi => (hown.lt i hi).1)
        go_wp2
        go_roundw
        case rel =>
          refine ⟨s.length + 1, s.length + 1, done ++ [pc], _, _, by go_num, by go_num, ?_, FIN.out (.bool true) _ _ _ hown', hb1, by simp; omega, by omega, by omega, fun _ => ?_⟩
          · rw [List.length_append, List.length_singleton]
          · rw [HSP.out, List.take_of_length_le (Nat.le_refl _)]
        case measure => simp [intOf]
    · obtain rfl : k = s.length + 1 := by omega
      obtain rfl := H2.out rfl
      have hr := Rd.of_own hown
      go_wp2
      go_ret
      exact ⟨g, cp, rfl, hr, hb⟩

theorem idx_all : (List.range 256).all (fun n => Lib.indexByte [48, 49, 50, 51, 52, 53, 54, 55, 56, 57, 97, 98, 99, 100, 101, 102] (UInt8.ofNat n) == Fm.digit (UInt8.ofNat n)) = true := by decide +kernel
theorem idx_digit (x : UInt8) : Lib.indexByte [48, 49, 50, 51, 52, 53, 54, 55, 56, 57, 97, 98, 99, 100, 101, 102] x = Fm.digit x := by
  have h := List.all_eq_true.1 idx_all x.toNat (List.mem_range.2 (UInt8.toNat_lt x))
  simpa using h
theorem index_any (x : UInt8) (w : World) : Calls Tryd.prog 47 #[.string ⟨#[48, 49, 50, 51, 52, 53, 54, 55, 56, 57, 97, 98, 99, 100, 101, 102]⟩, .int .u8 (x.toNat : Int)] w fun e w' => e = .returned (.int .i64 (Fm.digit x)) ∧ w' = w := by
  have h := Tryd.strings_IndexByte ⟨#[48, 49, 50, 51, 52, 53, 54, 55, 56, 57, 97, 98, 99, 100, 101, 102]⟩ (x.toNat : Int) w
  have e : ((x.toNat : Int).toNat.toUInt8) = x := by simp
  rw [e] at h
  have e2 : Lib.indexByte ((⟨#[48, 49, 50, 51, 52, 53, 54, 55, 56, 57, 97, 98, 99, 100, 101, 102]⟩ : ByteArray).data.toList) x = Fm.digit x := idx_digit x
  rw [e2] at h
  exact h

theorem or_all : (List.range 16).all (fun a => (List.range 16).all (fun b => bits .or .i64 ((a : Int) * 16) (b : Int) % 256 == 16 * (a : Int) + (b : Int))) = true := by decide +kernel
theorem or_nib (a b : Int) (h1 : 0 ≤ a) (h2 : a < 16) (h3 : 0 ≤ b) (h4 : b < 16) : bits .or .i64 (a * 16) b % 256 = ((UInt8.ofNat (16 * a + b).toNat).toNat : Int) := by
  have h := List.all_eq_true.1 (List.all_eq_true.1 or_all a.toNat (List.mem_range.2 (by omega))) b.toNat (List.mem_range.2 (by omega))
  rw [show ((a.toNat : Nat) : Int) = a from by omega, show ((b.toNat : Nat) : Int) = b from by omega] at h
  rw [beq_iff_eq.1 h]
  simp only [UInt8.toNat_ofNat']
  omega

set_option maxRecDepth 100000 in
set_option maxHeartbeats 1000000 in
theorem readHex_any (s : Bs) (w : World) (hl : s.length ≤ 1048576) :
    Calls Tryd.prog 29 #[.string (str s)] w (BytesPost (Fm.readHex s) w) := by
  obtain ⟨i0, hi, hz0, hz1, hz2⟩ := info_parts info5
  have hsz : (str s).size = s.length := str_size s
  go_enter Tryd.func29, Tryd.ntmps29
  go_wp2
  go_loopw [3, 4, 5, 6] (fun v i _ _ wr => ∃ (j : Nat) (b : Bs) (g : Option Addr) (cp : Nat), j ≤ s.length + 1 ∧ i = .int .i64 j ∧ v = .slice g b.length cp ∧ b.length ≤ j ∧ b ++ Fm.readHex (s.drop j) = Fm.readHex s ∧ wr.ownsRow w.heap.size 5 1 (.slice g b.length cp) b.length (u8s b) ∧ Below w.heap.size w wr)
    (fun _ i _ _ _ => s.length + 1 - (intOf i).toNat)
  case atStart => exact ⟨0, [], none, 0, by omega, rfl, rfl, by simp, by simp, World.ownsRow_nil _ _ _ _, Below.refl _ _⟩
  case round =>
    obtain ⟨j, b, g, cp, hj, rfl, rfl, hbl, hP, hown, hb⟩ := hrel
    have HP := Lib.hid hP
    clear hP
    by_cases hlt : j + 1 < s.length
    · obtain ⟨x, hx⟩ : ∃ x, s[j] = x := ⟨_, rfl⟩
      obtain ⟨y, hy⟩ : ∃ y, s[j + 1] = y := ⟨_, rfl⟩
      have ix : ∀ W : World, (Instr.index 9 (.string (str s)) (.int .i64 (j : Int))).run Tryd.prog W = .ok (.int .u8 (x.toNat : Int)) W := fun W => by rw [← hx]; exact str_idx s .i64 j (by omega) W
      have iy : ∀ W : World, (Instr.index 9 (.string (str s)) (.int .i64 ((j : Int) + 1))).run Tryd.prog W = .ok (.int .u8 (y.toNat : Int)) W := fun W => by rw [← hy]; exact str_idx s .i64 (j + 1) hlt W
      have hst : Fm.readHex (s.drop j) = UInt8.ofNat (16 * (max (Fm.digit x) 0) + max (Fm.digit y) 0).toNat :: Fm.readHex (s.drop (j + 2)) := by
        rw [List.drop_eq_getElem_cons (by omega), List.drop_eq_getElem_cons hlt, hx, hy]
        rfl
      have HST := Lib.hid hst
      have hxb := UInt8.toNat_lt x
      have hyb := UInt8.toNat_lt y
      have cx := index_any x
      have cy := index_any y
      clear hx hy hst
      obtain ⟨dx, hdx⟩ : ∃ dx, Fm.digit x = dx := ⟨_, rfl⟩
      obtain ⟨dy, hdy⟩ : ∃ dy, Fm.digit y = dy := ⟨_, rfl⟩
      rw [hdx] at cx HST
      rw [hdy] at cy HST
      have bx : -1 ≤ dx ∧ dx < 16 := by rw [← hdx]; unfold Fm.digit; split <;> (try split) <;> omega
      have by_ : -1 ≤ dy ∧ dy < 16 := by rw [← hdy]; unfold Fm.digit; split <;> (try split) <;> omega
      obtain ⟨bx1, bx2⟩ := bx
      obtain ⟨by1, by2⟩ := by_
      have CX := Lib.hid cx
      have CY := Lib.hid cy
      have hw1 : IntKind.i64.wrap ((j : Int) + 1) = (j : Int) + 1 := IntWalk.i64_in _ (by omega)
      clear cx cy hdx hdy
      go_wp2_with fail
      go_quiet ((go_at_call 47; first | exact Calls.quiet_of_same (CX.out _) | exact Calls.quiet_of_same (CY.out _)))
      rename_i nq
      have hownq : (wr.drewN nq).ownsRow w.heap.size 5 1 (.slice g b.length cp) b.length (u8s b) := hown
      go_wp2_with (at_builtin; refine wpList_append_lies _ rfl _ _ 32 rfl w.heap.size 5 i0 (.int .u8 0) 1 1 Tryd.underlying32 hi hz0 hz1 hz2 rfl (by decide) _ _ _ rfl (hownq.alloc _) ⟨wr.heap.size, 0, none⟩ 1 1 [_] rfl rfl (one_cell _ _ _) (u8_one _) (by decide) (by unfold maxLen; omega) (by omega) (by have := hb.size; simp; omega) _ rfl ?_)
      intro g1 cap w1 hown' hgrow _ _
      have hb1 : Below w.heap.size w w1 := ((bdrewN hb nq).alloc hb.size _).grown hgrow (Nat.le_trans hb.size (by simp)) (fun i hi => (hown.lt i hi).1)
      rw [or_nib _ _ (by omega) (by omega) (by omega) (by omega)] at hown'
      go_wp2
      go_roundw
      case rel =>
        refine ⟨j + 2, b ++ [UInt8.ofNat (16 * (max dx 0) + max dy 0).toNat], some ⟨g1, 0, none⟩, cap, by omega, by go_num, ?_, by simp; omega, ?_, ?_, hb1⟩
        · rw [List.length_append, List.length_singleton]
        · rw [List.append_assoc, List.singleton_append, ← HST.out]; exact HP.out
        · rw [List.length_append, List.length_singleton]
          have : u8s (b ++ [UInt8.ofNat (16 * (max dx 0) + max dy 0).toNat]) = u8s b ++ [.int .u8 ((UInt8.ofNat (16 * (max dx 0) + max dy 0).toNat).toNat : Int)] := by unfold u8s; rw [List.map_append, List.map_singleton]
          rw [this]
          exact hown'
      case measure => simp [intOf]; omega
    · have he : Fm.readHex (s.drop j) = [] := by
        have hl : (s.drop j).length ≤ 1 := by rw [List.length_drop]; omega
        match h : s.drop j, hl with
        | [], _ => rfl
        | [x], _ => rfl
      have hP' : b = Fm.readHex s := by have := HP.out; rwa [he, List.append_nil] at this
      have HP' := Lib.hid hP'
      have hbs : Bytes wr wr.heap.size g b := Rd.of_own hown
      clear he hP'
      go_wp2
      go_ret
      exact ⟨g, cp, by rw [← HP'.out]; rfl, by rw [← HP'.out]; exact hbs, Fr.own hown, hb⟩
end Go.Proofs.YtjcbfbdbgplakaaDoor
