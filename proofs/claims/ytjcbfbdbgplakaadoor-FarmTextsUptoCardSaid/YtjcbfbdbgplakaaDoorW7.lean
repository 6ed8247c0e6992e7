/-
  WALKS: word of the program (a loop over strings.Fields); Atoi, Itoa off the shelf in this proof's own words.
-/
import Derived.Test.YtjcbfbdbgplakaaDoorW6
import Derived.Test.YtjcbfbdbgplakaaDoorW1
import Derived.Test.YtjcbfbdbgplakaaDoorAid
namespace Go.Proofs.YtjcbfbdbgplakaaDoor
open Go.RowKit
open Fm (Bs Mv)
theorem blk_new_ (w : World) (o : Obj) : (w.alloc o).heap[w.heap.size]? = some o := heap_alloc_new w o
def wordsList : List Bs := Fm.tab.map (·.1)
def wordsText : ByteArray := ⟨(Fm.join 32 wordsList).toArray⟩
theorem fields_words : Lib.fields wordsText.data.toList = wordsList := by decide +kernel
theorem words_ascii : wordsText.data.toList.all (fun b => decide (b.toNat < 128)) = true := by decide +kernel
theorem words_size : wordsText.size < 4294967281 := by decide +kernel

theorem fields_any (s : ByteArray) (hs : s = wordsText) (w : World) (hE : Env w) :
    Calls Tryd.prog 50 #[.string s] w fun e w' => e = .returned (.slice (some ⟨w.heap.size, 0, none⟩) 18 18) ∧ w' = w.alloc (.cells (sts wordsList).toArray 9) := by
  subst hs
  have h := Tryd.strings_Fields_laid wordsText w words_size (fun j b hj => by
    have := List.all_eq_true.1 words_ascii b (List.mem_of_getElem? hj)
    simpa using this) hE.sp
  rw [fields_words] at h
  exact h

theorem find_take (f : (Bs × Int × Int × Bs) → Bool) (l : List (Bs × Int × Int × Bs)) (k : Nat) (h : k < l.length) (hn : (l.take k).find? f = none) :
    (f l[k] = true → l.find? f = some l[k]) ∧ (f l[k] = false → (l.take (k + 1)).find? f = none) := by
  refine ⟨fun ht => ?_, fun hf => ?_⟩
  · have e : l.find? f = (l.take k ++ l.drop k).find? f := by rw [List.take_append_drop]
    rw [e, List.find?_append, hn, List.drop_eq_getElem_cons h]
    simp [List.find?, ht]
  · rw [List.take_succ_eq_append_getElem h, List.find?_append, hn]
    simp [List.find?, hf]

set_option maxRecDepth 100000 in
set_option maxHeartbeats 1000000 in
theorem word_any (k a b n o p t m r : Int) (A9 A10 : Option Addr) (n9 c9 n10 c10 : Nat) (w : World) (hE : Env w) :
    Calls Tryd.prog 34 #[.agg #[.int .i64 k, .int .i64 a, .int .i64 b, .int .i64 n, .int .i64 o, .int .i64 p, .int .i64 t, .int .i64 m, .int .i64 r, .slice A9 n9 c9, .slice A10 n10 c10]] w
      fun e' w' => e' = .returned (.string (str (Fm.word k o))) ∧ Below w.heap.size w w' := by
  have CF := Lib.hid fields_any
  have CS := Lib.hid shapeF_any
  have hw : Fm.word k o = ((Fm.tab.find? (fun x => k == x.2.1 && o == x.2.2.1)).map (·.1)).getD [] := rfl
  have HW := Lib.hid hw
  clear hw
  go_enter Tryd.func34, Tryd.ntmps34
  go_wp2_with fail
  refine (CF.out _ (by kernel_rfl) _ (hE.below ((Below.refl _ _).alloc (Nat.le_refl _) _))).mono ?_
  rintro e w1 ⟨rfl, hw1⟩
  have c0 : w1.cell? ⟨w.heap.size, 0, none⟩ = some (.int .i64 k) := by rw [hw1]; simp [go_sem]
  have c4 : w1.cell? ⟨w.heap.size, 4, none⟩ = some (.int .i64 o) := by rw [hw1]; simp [go_sem]
  have hr : w1.heap[w.heap.size + 1]? = some (.cells (sts wordsList).toArray 9 (0, 0)) := by rw [hw1]; simpa using blk_new_ (w.alloc _) (.cells (sts wordsList).toArray 9)
  have hb : Below w.heap.size w w1 := by rw [hw1]; exact ((Below.refl _ _).alloc (Nat.le_refl _) _).alloc (by simp) _
  have HR := Lib.hid hr
  clear hw1 hr
  go_wp2_with fail
  go_loop [4, 5, 6, 7, 10] (fun _ _ _ _ i => ∃ j : Nat, j ≤ 18 ∧ i = .int .i64 j ∧ (Fm.tab.take j).find? (fun x => k == x.2.1 && o == x.2.2.1) = none)
    (fun _ _ _ _ i => 18 - (intOf i).toNat)
  case atStart => exact ⟨0, by omega, rfl, rfl⟩
  case round =>
    obtain ⟨j, hj, rfl, hn⟩ := hrel
    have HN := Lib.hid hn
    clear hn
    by_cases hlt : j < 18
    · have hlt' : j < Fm.tab.length := hlt
      obtain ⟨x, hx⟩ : ∃ x, Fm.tab[j] = x := ⟨_, rfl⟩
      have hc : w1.cell? ⟨w.heap.size + 1, j, none⟩ = some (.string (str x.1)) := by
        rw [blk_cell HR.out, ← hx]
        simp [sts, wordsList, hlt']
      have hrow := (Fm.tab_row x (by rw [← hx]; exact List.getElem_mem hlt')).1
      have cs := CS.out (str x.1)
      rw [str_data, hrow] at cs
      have CC := Lib.hid cs
      have HF := Lib.hid (find_take (fun x => k == x.2.1 && o == x.2.2.1) Fm.tab j hlt' HN.out)
      rw [hx] at HF
      clear cs hrow hx hlt'
      obtain ⟨xw, xk, xo, xq⟩ := x
      go_wp2_with fail
      refine (CC.out _).mono ?_
      rintro e w' ⟨rfl, rfl⟩
      by_cases hk : xk = k
      · by_cases ho : xo = o
        · have b1 : (xk == k) = true := by simpa using hk
          have b2 : (xo == o) = true := by simpa using ho
          have HV : Hid (Fm.word k o = xw) := by
            rw [HW.out, HF.out.1 (by simp [hk, ho])]
            rfl
          clear hk ho
          go_wp2
          go_ret
          exact ⟨by rw [HV.out]; rfl, hb⟩
        · have b1 : (xk == k) = true := by simpa using hk
          have b2 : (xo == o) = false := by simpa using ho
          have HV := Lib.hid (HF.out.2 (by simp only [Bool.and_eq_false_iff]; right; simpa using Ne.symm ho))
          clear hk ho
          go_wp2
          go_round
          case rel => exact ⟨j + 1, by omega, by go_num, HV.out⟩
          case measure => simp [intOf]; omega
      · have b1 : (xk == k) = false := by simpa using hk
        have HV := Lib.hid (HF.out.2 (by simp only [Bool.and_eq_false_iff]; left; simpa using Ne.symm hk))
        clear hk
        go_wp2
        go_round
        case rel => exact ⟨j + 1, by omega, by go_num, HV.out⟩
        case measure => simp [intOf]; omega
    · obtain rfl : j = 18 := by omega
      have HV : Hid (Fm.word k o = []) := by
        have := HN.out
        rw [List.take_of_length_le (by decide)] at this
        rw [HW.out, this]
        rfl
      go_wp2
      go_ret
      exact ⟨by rw [HV.out]; rfl, hb⟩

def AtoiPost (s : Bs) (w : World) (e : Ending) (w' : World) : Prop := ∃ err, e = .returned (.tuple #[.int .i64 (Fm.atoi s), err]) ∧ Below w.heap.size w w'
theorem atoi_any (s : Bs) (w : World) (hE : Env w) (hl : s.length ≤ 1048576) : Calls Tryd.prog 31 #[.string (str s)] w (AtoiPost s w) := by
  have hs := str_size s
  rcases h : Lib.atoiAll s with v | _ | _
  · refine (Tryd.strconv_Atoi_ok (str s) (by omega) v (by rw [str_data]; exact h) w).mono ?_
    rintro e w' ⟨rfl, hw⟩
    refine ⟨_, by unfold Fm.atoi; rw [h], ?_⟩
    rcases hw with rfl | ⟨t, rfl⟩
    · exact Below.refl _ _
    · exact Lib.bytesWorld_below w 5 t
  · obtain ⟨tp, p, hv⟩ := hE.syn
    refine (Any.strconv_Atoi_syntax_var Tryd.laysC172 (str s) (by omega) (by rw [str_data]; exact h) tp p w hv).mono ?_
    rintro e w' ⟨N, rfl, _, _, hb⟩
    exact ⟨_, by unfold Fm.atoi; rw [h], hb⟩
  · obtain ⟨tp, p, hv⟩ := hE.rng
    refine (Tryd.strconv_Atoi_range_var (str s) (by omega) (by rw [str_data]; exact h) tp p w hv).mono ?_
    rintro e w' ⟨N, rfl, _, _, hb⟩
    exact ⟨_, by unfold Fm.atoi; rw [h, str_data], hb⟩
theorem itoa_any (n : Int) (w : World) (hE : Env w) (h1 : -999999999 ≤ n) (h2 : n ≤ 999999999) : Calls Tryd.prog 37 #[.int .i64 n] w fun e w' => e = .returned (.string (str (Lib.itoa n))) ∧ Below w.heap.size w w' := by
  refine (Tryd.strconv_Itoa n (by omega) (by omega) w hE.pow).mono ?_
  rintro e w' ⟨rfl, k, os, rfl⟩
  exact ⟨rfl, rfl, rfl, rfl, by simp [Sort.grow], fun i hi => by simp [Sort.grow, Array.getElem?_append, hi]⟩
end Go.Proofs.YtjcbfbdbgplakaaDoor
