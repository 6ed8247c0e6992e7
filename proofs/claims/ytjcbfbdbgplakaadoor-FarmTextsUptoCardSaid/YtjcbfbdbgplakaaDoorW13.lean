import Derived.Lib.AppendStr
import Derived.Deep.AppendLies
import Derived.Deep.RegionWith
import Derived.Deep.DeepMust
import Derived.Test.YtjcbfbdbgplakaaDoorW8
import Derived.Test.YtjcbfbdbgplakaaDoorW10
namespace Go.Proofs.YtjcbfbdbgplakaaDoor
open Go.RowKit
open Fm (Bs Mv)

/-- One move's part of the text. -/
def Fm.ln (m : Mv) : Bs := if Fm.line m = [] then [] else Fm.line m ++ [10]
theorem Fm.text_snoc (l : List Mv) (m : Mv) : Fm.text (l ++ [m]) = Fm.text l ++ Fm.ln m := by
  unfold Fm.text Fm.ln
  rw [List.flatMap_append]
  simp
theorem Fm.lineGo_len (m : Mv) (hd : m.d.length ≤ 1048576) (he : m.e.length ≤ 1048576) : ∀ (q t : Bs) (b : Mv) (t' : Bs) (b' : Mv), Fm.lineGo m q t b = some (t', b') → t'.length ≤ t.length + q.length * 2097153
  | [], t, b, t', b', h => by simp only [Fm.lineGo, Option.some.injEq, Prod.mk.injEq] at h; rw [h.1]; omega
  | c :: q, t, b, t', b', h => by
    simp only [Fm.lineGo] at h
    cases hp : Fm.partT m c with
    | none => rw [hp] at h; cases h
    | some x =>
      rw [hp, Option.bind_some] at h
      have h1 := Fm.lineGo_len m hd he q _ _ t' b' h
      have h2 := Fm.partT_len hp hd he
      rw [List.length_append, List.length_cons] at h1
      rw [List.length_cons, Nat.succ_mul]
      omega
theorem Fm.line_len (m : Mv) (hd : m.d.length ≤ 1048576) (he : m.e.length ≤ 1048576) : (Fm.line m).length ≤ 8388700 := by
  unfold Fm.line
  split
  · simp
  · rename_i hw
    have hwl : (Fm.word m.k m.o).length ≤ 7 := by
      obtain ⟨q', hq'⟩ := Fm.word_mem hw
      exact (Fm.tab_row _ hq').2.2.2.2.2.2.1
    have hq := (parts_code _ (Fm.shape_parts (Fm.word m.k m.o))).1
    split
    · simp
    · rename_i t b hg
      have := Fm.lineGo_len m hd he _ _ _ _ _ hg
      have : (Fm.shape (Fm.word m.k m.o)).2.2.length * 2097153 ≤ 4 * 2097153 := Nat.mul_le_mul_right _ hq
      split
      · omega
      · simp
theorem Fm.ln_len (m : Mv) (hd : m.d.length ≤ 1048576) (he : m.e.length ≤ 1048576) : (Fm.ln m).length ≤ 8388701 := by
  have := Fm.line_len m hd he
  unfold Fm.ln
  split
  · simp
  · rw [List.length_append, List.length_singleton]; omega
theorem Fm.text_len : ∀ (l : List Mv), (∀ m ∈ l, m.d.length ≤ 1048576 ∧ m.e.length ≤ 1048576) → (Fm.text l).length ≤ l.length * 8388701
  | [], _ => by simp [Fm.text]
  | m :: l, h => by
    have h1 := Fm.text_len l (fun x hx => h x (List.mem_cons_of_mem _ hx))
    have h2 := Fm.ln_len m (h m List.mem_cons_self).1 (h m List.mem_cons_self).2
    have : Fm.text (m :: l) = Fm.ln m ++ Fm.text l := by unfold Fm.text Fm.ln; rw [List.flatMap_cons]
    rw [this, List.length_append, List.length_cons, Nat.succ_mul]
    omega
theorem elem_at {w : World} {ad : Addr} {i : Nat} {m : Mv} {x : At} (h : ∀ j u, (cells m x)[j]? = some u → w.cell? (ad.add (i * 11 + j)) = some u) (j : Nat) (u : Value) (hj : 1 ≤ j) (hu : (cells m x)[j]? = some u) : w.cell? ⟨(ad.add (i * 11)).block, (ad.add (i * 11)).off + j, none⟩ = some u := by
  rw [← h j u hu]
  have e : ad.add (i * 11 + j) = ⟨(ad.add (i * 11)).block, (ad.add (i * 11)).off + j, none⟩ := by
    have h1 : i * 11 + j ≠ 0 := by omega
    unfold Addr.add
    rw [if_neg h1]
    by_cases h2 : i * 11 = 0
    · rw [if_pos h2, h2]; simp
    · rw [if_neg h2]; simp [Nat.add_assoc]
  rw [e]
theorem Below.grown0' {w w' : World} (h : Below w.heap.size w w') : w.grownBy w' none := ⟨h.os, h.tape, h.output, h.size, fun i hi _ => h.block i hi⟩
theorem strCells_str (l : Bs) : Lib.strCells (str l) = u8s l := by unfold Lib.strCells u8s str; simp
theorem u8s_append (a b : Bs) : u8s (a ++ b) = u8s a ++ u8s b := by simp [u8s]
set_option maxRecDepth 100000 in
set_option maxHeartbeats 4000000 in
theorem textR_any (ms : List Mv) (A : Option Addr) (c : Nat) (w : World) (hM : Moves w w.heap.size A ms.length ms) (hl : ∀ m ∈ ms, m.d.length ≤ 1048576 ∧ m.e.length ≤ 1048576) (hn : ms.length ≤ 4096) :
    Calls Tryd.prog 11 #[.slice A ms.length c] w fun e w' => e = .returned (.string (str (Fm.text ms))) ∧ Below w.heap.size w w' := by
  obtain ⟨i0, hi, hz0, hz1, hz2⟩ := info_parts info5
  have CL := Lib.hid lineT_any
  go_enter Tryd.func11, Tryd.ntmps11
  go_wp2
  go_loopw [3, 4] (fun v i wr => ∃ (k : Nat) (g : Option Addr) (n cp : Nat), k ≤ ms.length ∧ i = .int .i64 k ∧ v = .slice g n cp ∧ n = (Fm.text (ms.take k)).length ∧ wr.ownsRow w.heap.size 5 1 (.slice g n cp) n (u8s (Fm.text (ms.take k))) ∧ Below w.heap.size w wr)
    (fun _ i _ => ms.length - (intOf i).toNat)
  case atStart => exact ⟨0, none, 0, 0, Nat.zero_le _, rfl, rfl, rfl, World.ownsRow_nil _ _ _ _, Below.refl _ _⟩
  case round =>
    obtain ⟨k, g, n, cp, hk, rfl, rfl, hnn, hown, hb⟩ := hrel
    by_cases hlt : k < ms.length
    · obtain ⟨ad, x, hA, hadb, hmem, hc⟩ := (hM.below hb hb.size).at_ hlt
      obtain ⟨m, hm⟩ : ∃ m, ms[k] = m := ⟨_, rfl⟩
      have hml := hl m (by rw [← hm]; exact List.getElem_mem hlt)
      rw [hm] at hmem hc
      have hts : Fm.text (ms.take (k + 1)) = Fm.text (ms.take k) ++ Fm.ln m := by rw [List.take_succ_eq_append_getElem hlt, hm, Fm.text_snoc]
      have HTS := Lib.hid hts
      have htl := Fm.text_len (ms.take k) (fun y hy => hl y (List.mem_of_mem_take hy))
      rw [List.length_take, Nat.min_eq_left hk, ← hnn] at htl
      have hll := Fm.line_len m hml.1 hml.2
      obtain ⟨mk, ma, mb, mn, mo, mp, mt, mm, mr, md, me⟩ := m
      subst hA
      have HNN := Lib.hid hnn
      clear hts hm hnn
      have c0 : wr.cell? (ad.add (k * 11)) = some (.int .i64 mk) := hc 0 _ rfl
      have c1 := elem_at hc 1 (.int .i64 ma) (by omega) rfl
      have c2 := elem_at hc 2 (.int .i64 mb) (by omega) rfl
      have c3 := elem_at hc 3 (.int .i64 mn) (by omega) rfl
      have c4 := elem_at hc 4 (.int .i64 mo) (by omega) rfl
      have c5 := elem_at hc 5 (.int .i64 mp) (by omega) rfl
      have c6 := elem_at hc 6 (.int .i64 mt) (by omega) rfl
      have c7 := elem_at hc 7 (.int .i64 mm) (by omega) rfl
      have c8 := elem_at hc 8 (.int .i64 mr) (by omega) rfl
      have c9 := elem_at hc 9 (.slice x.d md.length x.dc) (by omega) rfl
      have c10 := elem_at hc 10 (.slice x.e me.length x.ec) (by omega) rfl
      go_wp2_with fail
      refine (CL.out mk ma mb mn mo mp mt mm mr x.d x.e x.dc x.ec md me wr hmem.d hmem.e hml.1 hml.2).mono ?_
      rintro e' w1 ⟨rfl, hb1⟩
      clear c0 c1 c2 c3 c4 c5 c6 c7 c8 c9 c10 hmem
      have hown1 := hown.kept (Below.grown0' hb1) (by cases (Value.slice g n cp).ownBlock <;> simp)
      have hw1 := hb.trans (hb1.mono hb.size)
      have hs1 := hw1.size
      obtain ⟨ln, hln⟩ : ∃ ln, Fm.line ⟨mk, ma, mb, mn, mo, mp, mt, mm, mr, md, me⟩ = ln := ⟨_, rfl⟩
      rw [hln] at hll ⊢
      have HLN : Hid (Fm.ln ⟨mk, ma, mb, mn, mo, mp, mt, mm, mr, md, me⟩ = if ln = [] then [] else ln ++ [10]) := Lib.hid (by unfold Fm.ln; rw [hln])
      clear hln hown hb1
      by_cases h0 : ln = []
      · have e1 : ((str ln).toList == []) = true := by rw [str_toList, h0]; rfl
        have e2 : ((str ln).toList != []) = false := by simp only [bne, e1, Bool.not_true]
        have HT2 : Hid (Fm.text (ms.take (k + 1)) = Fm.text (ms.take k)) := Lib.hid (by rw [HTS.out, HLN.out, if_pos h0, List.append_nil])
        clear h0
        go_wp2
        go_roundw
        case rel => exact ⟨k + 1, g, n, cp, by omega, by go_num, rfl, by rw [HT2.out]; exact HNN.out, by rw [HT2.out]; exact hown1, hw1⟩
        case measure => simp [intOf]; omega
      · have e1 : ((str ln).toList == []) = false := by rw [str_toList]; cases ln <;> simp at h0 ⊢
        have e2 : ((str ln).toList != []) = true := by simp only [bne, e1, Bool.not_false]
        have HT2 : Hid (Fm.text (ms.take (k + 1)) = Fm.text (ms.take k) ++ (ln ++ [10])) := Lib.hid (by rw [HTS.out, HLN.out, if_neg h0])
        have hsz : (str ln).size = ln.length := str_size ln
        have hzk : n ≤ 4096 * 8388701 := Nat.le_trans htl (Nat.mul_le_mul_right _ (by omega))
        clear h0 htl
        go_wp2_with (at_builtin; go_must (refine Lib.wpList_append_own_string _ rfl _ _ 32 9 rfl w.heap.size 5 i0 Tryd.underlying32 Tryd.underlying9 hi hz0 hz1 hz2 _ _ _ rfl hown1 (str ln) rfl (by unfold maxLen; omega) (by omega) hs1 ?_))
        intro v' w2 hown2 hgrow2 _
        have hw2 : Below w.heap.size w w2 := hw1.grown hgrow2 hs1 (fun i hi => (hown1.lt i hi).1)
        have hs2 := hw2.size
        clear hgrow2 hown1
        go_wp2_with (at_builtin; go_must (refine wpList_append_lies _ rfl _ _ 32 rfl w.heap.size 5 i0 (.int .u8 0) 1 1 Tryd.underlying32 hi hz0 hz1 hz2 rfl (by decide) _ _ _ rfl (hown2.alloc _) ⟨w2.heap.size, 0, none⟩ 1 1 [.int .u8 10] rfl rfl (one_cell _ _ _) (u8_one _) (by decide) (by unfold maxLen; omega) (by omega) (by simp; omega) _ rfl ?_))
        intro g3 cap3 w3 hown3 hgrow3 _ _
        have hw3 : Below w.heap.size w w3 := (hw2.alloc hs2 _).grown hgrow3 (by simp; omega) (fun i hi => (hown2.lt i hi).1)
        clear hgrow3 hown2
        go_wp2
        go_roundw
        case rel =>
          refine ⟨k + 1, _, _, _, by omega, by go_num, rfl, ?_, ?_, hw3⟩
          · rw [HT2.out, List.length_append, List.length_append, List.length_singleton, ← HNN.out]; omega
          · rw [HT2.out, u8s_append, u8s_append, ← strCells_str ln]
            exact hown3
        case measure => simp [intOf]; omega
    · obtain rfl : k = ms.length := by omega
      rw [List.take_of_length_le (Nat.le_refl _)] at hown hnn
      subst hnn
      have kc := run_bytes_string cp (Rd.of_own hown)
      go_wp2
      go_ret
      exact ⟨rfl, hb⟩

theorem builder_far {B b : Nat} {p : Value} {bs : List Value} {W W' : World} (h : Lib.BuilderAtF 53 5 B b p bs W) (hb : Below W.heap.size W W') : Lib.BuilderAtF 53 5 B b p bs W' := by
  have hlt := h.lt
  obtain ⟨h1, v, hv, hown, hne⟩ := h
  exact ⟨h1, v, (hb.block b hlt).trans hv, hown.kept (Below.grown0' hb) (by cases v.ownBlock <;> simp), hne⟩
theorem isBuilder_far {B b : Nat} {bs : List Value} {W W' : World} (h : Lib.IsBuilderF 53 5 B b bs W) (hb : Below W.heap.size W W') : Lib.IsBuilderF 53 5 B b bs W' :=
  h.elim (fun x => .inl (builder_far x hb)) (fun x => .inr (builder_far x hb))
theorem byteCells_u8s (l : Bs) : Lib.byteCells l = u8s l := rfl
set_option maxRecDepth 100000 in
set_option maxHeartbeats 4000000 in
theorem textF_any (ms : List Mv) (A : Option Addr) (c : Nat) (w : World) (hE : Env w) (hM : Moves w w.heap.size A ms.length ms) (hl : ∀ m ∈ ms, m.d.length ≤ 1048576 ∧ m.e.length ≤ 1048576) (hn : ms.length ≤ 4096) :
    Calls Tryd.prog 10 #[.slice A ms.length c] w fun e w' => e = .returned (.string (str (Fm.text ms))) ∧ Below w.heap.size w w' := by
  have CL := Lib.hid lineF_any
  have CW := Lib.hid writeString_k
  go_enter Tryd.func10, Tryd.ntmps10
  go_wp2
  go_loopw [9] (fun i wr => ∃ (k : Nat), k ≤ ms.length ∧ i = .int .i64 k ∧ Lib.IsBuilderF 53 5 w.heap.size w.heap.size (Lib.byteCells (Fm.text (ms.take k))) wr ∧ Below w.heap.size w wr ∧ w.heap.size < wr.heap.size)
    (fun i _ => ms.length - (intOf i).toNat)
  case atStart => exact ⟨0, Nat.zero_le _, rfl, Lib.IsBuilderF.of (Lib.fresh_isBuilder 53 5 w), (Below.refl _ _).alloc (Nat.le_refl _) _, by simp⟩
  case round =>
    obtain ⟨k, hk, rfl, hB, hb, hsz⟩ := hrel
    by_cases hlt : k < ms.length
    · obtain ⟨ad, x, hA, hadb, hmem, hc⟩ := (hM.below hb hb.size).at_ hlt
      obtain ⟨m, hm⟩ : ∃ m, ms[k] = m := ⟨_, rfl⟩
      have hml := hl m (by rw [← hm]; exact List.getElem_mem hlt)
      rw [hm] at hmem hc
      have hts : Fm.text (ms.take (k + 1)) = Fm.text (ms.take k) ++ Fm.ln m := by rw [List.take_succ_eq_append_getElem hlt, hm, Fm.text_snoc]
      have HTS := Lib.hid hts
      have htl := Fm.text_len (ms.take k) (fun y hy => hl y (List.mem_of_mem_take hy))
      rw [List.length_take, Nat.min_eq_left hk] at htl
      have hzk : (Fm.text (ms.take k)).length ≤ 4096 * 8388701 := Nat.le_trans htl (Nat.mul_le_mul_right _ (by omega))
      have hll := Fm.line_len m hml.1 hml.2
      obtain ⟨mk, ma, mb, mn, mo, mp, mt, mm, mr, md, me⟩ := m
      subst hA
      clear hts hm htl
      have c0 : wr.cell? (ad.add (k * 11)) = some (.int .i64 mk) := hc 0 _ rfl
      have c1 := elem_at hc 1 (.int .i64 ma) (by omega) rfl
      have c2 := elem_at hc 2 (.int .i64 mb) (by omega) rfl
      have c3 := elem_at hc 3 (.int .i64 mn) (by omega) rfl
      have c4 := elem_at hc 4 (.int .i64 mo) (by omega) rfl
      have c5 := elem_at hc 5 (.int .i64 mp) (by omega) rfl
      have c6 := elem_at hc 6 (.int .i64 mt) (by omega) rfl
      have c7 := elem_at hc 7 (.int .i64 mm) (by omega) rfl
      have c8 := elem_at hc 8 (.int .i64 mr) (by omega) rfl
      have c9 := elem_at hc 9 (.slice x.d md.length x.dc) (by omega) rfl
      have c10 := elem_at hc 10 (.slice x.e me.length x.ec) (by omega) rfl
      have hal : Below wr.heap.size wr (wr.alloc (.cells #[.int .i64 mk, .int .i64 ma, .int .i64 mb, .int .i64 mn, .int .i64 mo, .int .i64 mp, .int .i64 mt, .int .i64 mm, .int .i64 mr, .slice x.d md.length x.dc, .slice x.e me.length x.ec] 39)) := (Below.refl _ _).alloc (Nat.le_refl _) _
      have CP := Lib.hid (CL.out mk ma mb mn mo mp mt mm mr x.d x.e x.dc x.ec md me (wr.alloc (.cells #[.int .i64 mk, .int .i64 ma, .int .i64 mb, .int .i64 mn, .int .i64 mo, .int .i64 mp, .int .i64 mt, .int .i64 mm, .int .i64 mr, .slice x.d md.length x.dc, .slice x.e me.length x.ec] 39)) (hE.below (hb.trans (hal.mono hb.size))) (hmem.below hal hal.size).d (hmem.below hal hal.size).e hml.1 hml.2)
      go_wp2_with fail
      refine CP.out.mono ?_
      rintro e' w1 ⟨rfl, hb1'⟩
      have hb1 := hal.trans (hb1'.mono hal.size)
      clear c0 c1 c2 c3 c4 c5 c6 c7 c8 c9 c10 hmem CP hal hb1'
      have hB1 := isBuilder_far hB hb1
      have hw1 := hb.trans (hb1.mono hb.size)
      have hs1 : w.heap.size < w1.heap.size := Nat.lt_of_lt_of_le hsz hb1.size
      obtain ⟨ln, hln⟩ : ∃ ln, Fm.line ⟨mk, ma, mb, mn, mo, mp, mt, mm, mr, md, me⟩ = ln := ⟨_, rfl⟩
      rw [hln] at hll ⊢
      have HLN : Hid (Fm.ln ⟨mk, ma, mb, mn, mo, mp, mt, mm, mr, md, me⟩ = if ln = [] then [] else ln ++ [10]) := Lib.hid (by unfold Fm.ln; rw [hln])
      clear hln hB hb1
      by_cases h0 : ln = []
      · have e1 : ((str ln).toList == []) = true := by rw [str_toList, h0]; rfl
        have e2 : ((str ln).toList != []) = false := by simp only [bne, e1, Bool.not_true]
        have HT2 : Hid (Fm.text (ms.take (k + 1)) = Fm.text (ms.take k)) := Lib.hid (by rw [HTS.out, HLN.out, if_pos h0, List.append_nil])
        clear h0
        go_wp2
        go_roundw
        case rel => exact ⟨k + 1, by omega, by go_num, by rw [HT2.out]; exact hB1, hw1, hs1⟩
        case measure => simp [intOf]; omega
      · have e1 : ((str ln).toList == []) = false := by rw [str_toList]; cases ln <;> simp at h0 ⊢
        have e2 : ((str ln).toList != []) = true := by simp only [bne, e1, Bool.not_false]
        have HT2 : Hid (Fm.text (ms.take (k + 1)) = Fm.text (ms.take k) ++ (ln ++ [10])) := Lib.hid (by rw [HTS.out, HLN.out, if_neg h0])
        have hsz : (str ln).size = ln.length := str_size ln
        have hcat : str ln ++ { data := #[10] } = str (ln ++ [10]) := str_append ln [10]
        have hs2 : (str (ln ++ [10])).size = ln.length + 1 := by rw [str_size, List.length_append, List.length_singleton]
        have CP2 := Lib.hid (CW.out w.heap.size w.heap.size (Lib.byteCells (Fm.text (ms.take k))) (str (ln ++ [10])) w1 hB1 (by rw [Lib.byteCells_length, hs2]; omega) (Nat.le_of_lt hs1))
        have HS2 := Lib.hid hs2
        clear h0 hs2
        go_wp2_with fail
        refine CP2.out.mono ?_
        rintro e' w2 ⟨rfl, hB2, hb2, _⟩
        have hs3 := hb2.size
        go_wp2
        go_roundw
        case rel =>
          refine ⟨k + 1, by omega, by go_num, .inr ?_, hw1.trans hb2, by omega⟩
          rw [HT2.out, byteCells_u8s, u8s_append, ← strCells_str (ln ++ [10])]
          exact hB2
        case measure => simp [intOf]; omega
    · obtain rfl : k = ms.length := by omega
      rw [List.take_of_length_le (Nat.le_refl _)] at hB
      go_wp2_with fail
      refine (Tryd.Builder_String_any_k _ _ _ _ hB (Nat.le_of_lt hsz)).mono ?_
      rintro e w1 ⟨rfl, _, hb1, _⟩
      go_wp2
      go_ret
      exact ⟨rfl, hb.trans hb1⟩
end Go.Proofs.YtjcbfbdbgplakaaDoor
