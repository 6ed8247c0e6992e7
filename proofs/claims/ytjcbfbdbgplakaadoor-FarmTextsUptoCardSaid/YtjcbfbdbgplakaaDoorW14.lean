import Derived.Deep.RegionWith
import Derived.BigQuiet
import Derived.Deep.QuietTactic
import Derived.Test.YtjcbfbdbgplakaaDoorW13
namespace Go.Proofs.YtjcbfbdbgplakaaDoor
open Go.RowKit
open Fm (Bs Mv)

def total (l : List Mv) : Nat := (l.map (fun m => m.d.length + m.e.length)).sum
theorem total_snoc (l : List Mv) (m : Mv) : total (l ++ [m]) = total l + (m.d.length + m.e.length) := by simp [total]
theorem total_le : ∀ (l : List Mv), (∀ m ∈ l, m.d.length ≤ 1048576 ∧ m.e.length ≤ 1048576) → total l ≤ l.length * 2097152
  | [], _ => by simp [total]
  | m :: l, h => by
    have h1 := total_le l (fun x hx => h x (List.mem_cons_of_mem _ hx))
    have h2 := h m List.mem_cons_self
    have : total (m :: l) = m.d.length + m.e.length + total l := by simp [total]
    rw [this, List.length_cons, Nat.succ_mul]
    omega
def FewPost (ms : List Mv) (w : World) (e : Ending) (w' : World) : Prop := ∃ b, e = .returned (.bool b) ∧ (b = true → ms.length ≤ 300 ∧ total ms ≤ 16384) ∧ Below w.heap.size w w'
set_option maxRecDepth 100000 in
set_option maxHeartbeats 4000000 in
theorem few_any (ms : List Mv) (A : Option Addr) (c : Nat) (w : World) (hM : Moves w w.heap.size A ms.length ms) (hl : ∀ m ∈ ms, m.d.length ≤ 1048576 ∧ m.e.length ≤ 1048576) (hn : ms.length ≤ 1048576) :
    Calls Tryd.prog 5 #[.slice A ms.length c] w (FewPost ms w) := by
  go_enter Tryd.func5, Tryd.ntmps5
  go_wp2
  go_loopw [3, 4] (fun s i wr => ∃ (k sm : Nat), k ≤ ms.length ∧ i = .int .i64 k ∧ s = .int .i64 sm ∧ sm = total (ms.take k) ∧ Below w.heap.size w wr)
    (fun _ i _ => ms.length - (intOf i).toNat)
  case atStart => exact ⟨0, 0, Nat.zero_le _, rfl, rfl, rfl, Below.refl _ _⟩
  case round =>
    obtain ⟨k, sm, hk, rfl, rfl, hsm, hb⟩ := hrel
    have HSM := Lib.hid hsm
    have htl := total_le (ms.take k) (fun y hy => hl y (List.mem_of_mem_take hy))
    rw [← hsm, List.length_take, Nat.min_eq_left hk] at htl
    have hsmx : sm ≤ 1048576 * 2097152 := Nat.le_trans htl (Nat.mul_le_mul_right _ (by omega))
    clear hsm htl
    by_cases hlt : k < ms.length
    · obtain ⟨ad, x, hA, hadb, hmem, hc⟩ := (hM.below hb hb.size).at_ hlt
      obtain ⟨m, hm⟩ : ∃ m, ms[k] = m := ⟨_, rfl⟩
      have hml := hl m (by rw [← hm]; exact List.getElem_mem hlt)
      rw [hm] at hmem hc
      have HT := Lib.hid (show total (ms.take (k + 1)) = total (ms.take k) + (m.d.length + m.e.length) from by rw [List.take_succ_eq_append_getElem hlt, hm, total_snoc])
      obtain ⟨mk, ma, mb, mn, mo, mp, mt, mm, mr, md, me⟩ := m
      subst hA
      clear hm
      have c4 := elem_at hc 4 (.int .i64 mo) (by omega) rfl
      have c7 := elem_at hc 7 (.int .i64 mm) (by omega) rfl
      have c9 := elem_at hc 9 (.slice x.d md.length x.dc) (by omega) rfl
      have c10 := elem_at hc 10 (.slice x.e me.length x.ec) (by omega) rfl
      go_wp2_with fail
      go_quiet (fail)
      obtain ⟨b5, hb5⟩ : ∃ b5, (mo == 5) = b5 := ⟨_, rfl⟩
      cases b5 with
      | false =>
        go_wp2_with fail
        go_roundw
        case rel => exact ⟨k + 1, sm + (md.length + me.length), by omega, by go_num, by go_num, by rw [HT.out, ← HSM.out], bdrewN hb _⟩
        case measure => simp [intOf]; omega
      | true =>
        by_cases h1 : 8192 < mm
        · by_cases h2 : mm ≤ 1048576
          · have h1' : ¬ mm ≤ 8192 := by omega
            go_wp2_with fail
            go_ret
            exact ⟨false, rfl, (fun h => by cases h), bdrewN hb _⟩
          · have h2' : 1048576 < mm := by omega
            go_wp2_with fail
            go_roundw
            case rel => exact ⟨k + 1, sm + (md.length + me.length), by omega, by go_num, by go_num, by rw [HT.out, ← HSM.out], bdrewN hb _⟩
            case measure => simp [intOf]; omega
        · have h1' : mm ≤ 8192 := by omega
          go_wp2_with fail
          go_roundw
          case rel => exact ⟨k + 1, sm + (md.length + me.length), by omega, by go_num, by go_num, by rw [HT.out, ← HSM.out], bdrewN hb _⟩
          case measure => simp [intOf]; omega
    · obtain rfl : k = ms.length := by omega
      rw [List.take_of_length_le (Nat.le_refl _)] at HSM
      by_cases h1 : ms.length ≤ 300
      · by_cases h2 : sm ≤ 16384
        · have h1' : (ms.length : Int) ≤ 300 := by omega
          have h2' : (sm : Int) ≤ 16384 := by omega
          go_wp2_with fail
          go_ret
          exact ⟨_, rfl, fun _ => ⟨h1, by rw [← HSM.out]; exact h2⟩, hb⟩
        · have h1' : (ms.length : Int) ≤ 300 := by omega
          have h2' : ¬ (sm : Int) ≤ 16384 := by omega
          go_wp2_with fail
          go_ret
          exact ⟨false, by simp, (fun h => by cases h), hb⟩
      · have h1' : ¬ (ms.length : Int) ≤ 300 := by omega
        go_wp2_with fail
        go_ret
        exact ⟨false, by simp, (fun h => by cases h), hb⟩
end Go.Proofs.YtjcbfbdbgplakaaDoor
