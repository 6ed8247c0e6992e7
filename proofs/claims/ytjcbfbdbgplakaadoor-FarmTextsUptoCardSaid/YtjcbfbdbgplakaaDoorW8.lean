import Derived.Deep.RegionWith
import Derived.StillTailTactics
import Derived.Deep.RegionHeld3
import Derived.Test.YtjcbfbdbgplakaaDoorW6
import Derived.Test.YtjcbfbdbgplakaaDoorW5
import Derived.Test.YtjcbfbdbgplakaaDoorW7
import Derived.Test.YtjcbfbdbgplakaaDoorW4
namespace Go.Proofs.YtjcbfbdbgplakaaDoor
open Go.RowKit
open Fm (Bs Mv)
namespace Fm
theorem lineGo_append (m : Mv) : ∀ (a q t : Bs) (b : Mv), lineGo m (a ++ q) t b = (lineGo m a t b).bind (fun y => lineGo m q y.1 y.2)
  | [], q, t, b => by simp [lineGo]
  | c :: a, q, t, b => by
    simp only [List.cons_append, lineGo]
    cases partT m c with
    | none => rfl
    | some x => simp only [Option.bind_some]; exact lineGo_append m a q _ _
/-- One part more. -/
theorem lineGo_step (m : Mv) (q t0 t : Bs) (b0 b : Mv) (i : Nat) (h : i < q.length) (hg : lineGo m (q.take i) t0 b0 = some (t, b)) :
    (∀ x, partT m q[i] = some x → lineGo m (q.take (i + 1)) t0 b0 = some (t ++ 32 :: x, copyP m b q[i])) ∧ (partT m q[i] = none → lineGo m q t0 b0 = none) := by
  refine ⟨fun x hx => ?_, fun hx => ?_⟩
  · rw [List.take_succ_eq_append_getElem h, lineGo_append, hg]
    simp [lineGo, hx]
  · rw [← List.take_append_drop i q, lineGo_append, hg, List.drop_eq_getElem_cons h]
    simp [lineGo, hx]
theorem partT_len {m : Mv} {c : UInt8} {x : Bs} (h : partT m c = some x) (hd : m.d.length ≤ 1048576) (he : m.e.length ≤ 1048576) : x.length ≤ 2097152 := by
  unfold partT at h
  split at h
  · split at h
    · cases h
    · simp only [Option.some.injEq] at h
      subst h
      rw [hexed_len]; omega
  · split at h
    · simp only [Option.some.injEq] at h
      subst h
      unfold kept
      split
      · simp
      · rw [List.length_map]; omega
    · split at h
      · cases h
      · rename_i hg
        simp only [Option.some.injEq] at h
        subst h
        unfold gr at hg
        unfold Lib.itoa
        split
        · rw [List.length_cons, decDigits_len]
          have := nDigits_le (u := (getN m c).natAbs) 8 (by omega)
          omega
        · rw [decDigits_len]
          have := nDigits_le (u := (getN m c).toNat) 8 (by omega)
          omega
end Fm

theorem parts_code : ∀ q ∈ ([[], [112, 97, 110, 114], [112, 97, 110], [112, 97, 120], [112], [78], [78, 107], [107], [65, 66, 78]] : List Bs), q.length ≤ 4 ∧ ∀ c ∈ q, c ∈ ([120, 107, 112, 97, 110, 114, 65, 66, 78] : Bs) := by decide
theorem line_none {m : Mv} {wd q : Bs} (h1 : Fm.word m.k m.o = wd) (h2 : (Fm.shape wd).2.2 = q) (h : Fm.lineGo m q wd (Fm.zero m.k m.o) = none) : Fm.line m = [] := by
  unfold Fm.line
  rw [h1, h2]
  split
  · rfl
  · rw [h]
theorem line_some' {m b : Mv} {wd q t : Bs} (h1 : Fm.word m.k m.o = wd) (h0 : ¬ wd = []) (h2 : (Fm.shape wd).2.2 = q) (h : Fm.lineGo m q wd (Fm.zero m.k m.o) = some (t, b)) : Fm.line m = if Fm.same m b = true then t else [] := by
  unfold Fm.line
  rw [h1, h2, if_neg h0, h]

/-- Eleven stores that write a move's cells anew. -/
def set11 (w : World) (g : Nat) (v0 v1 v2 v3 v4 v5 v6 v7 v8 v9 v10 : Value) : World := (((((((((((w.setCell ⟨g, 0, none⟩ v0).setCell ⟨g, 1, none⟩ v1).setCell ⟨g, 2, none⟩ v2).setCell ⟨g, 3, none⟩ v3).setCell ⟨g, 4, none⟩ v4).setCell ⟨g, 5, none⟩ v5).setCell ⟨g, 6, none⟩ v6).setCell ⟨g, 7, none⟩ v7).setCell ⟨g, 8, none⟩ v8).setCell ⟨g, 9, none⟩ v9).setCell ⟨g, 10, none⟩ v10)
theorem set11_blk {w : World} {g : Nat} {t : TypeId} {c0 c1 c2 c3 c4 c5 c6 c7 c8 c9 c10 : Value} (h : w.heap[g]? = some (.cells #[c0, c1, c2, c3, c4, c5, c6, c7, c8, c9, c10] t (0, 0))) (v0 v1 v2 v3 v4 v5 v6 v7 v8 v9 v10 : Value) : (set11 w g v0 v1 v2 v3 v4 v5 v6 v7 v8 v9 v10).heap[g]? = some (.cells #[v0, v1, v2, v3, v4, v5, v6, v7, v8, v9, v10] t (0, 0)) := by
  simp [set11, World.setCell, Array.getElem?_modify, h]
theorem set11_other (w : World) {g j : Nat} (hj : j ≠ g) (v0 v1 v2 v3 v4 v5 v6 v7 v8 v9 v10 : Value) : (set11 w g v0 v1 v2 v3 v4 v5 v6 v7 v8 v9 v10).heap[j]? = w.heap[j]? := by
  have h : ∀ (W : World) (i : Nat) (u : Value), (W.setCell ⟨g, i, none⟩ u).heap[j]? = W.heap[j]? := fun W i u => Below.heap_setCell W ⟨g, i, none⟩ u j hj
  simp only [set11, h]
theorem set11_size (w : World) (g : Nat) (v0 v1 v2 v3 v4 v5 v6 v7 v8 v9 v10 : Value) : (set11 w g v0 v1 v2 v3 v4 v5 v6 v7 v8 v9 v10).heap.size = w.heap.size := by simp [set11, World.setCell]
theorem set11_below {B : Nat} {a w : World} (h : Below B a w) {g : Nat} (hg : B ≤ g) (v0 v1 v2 v3 v4 v5 v6 v7 v8 v9 v10 : Value) : Below B a (set11 w g v0 v1 v2 v3 v4 v5 v6 v7 v8 v9 v10) := by
  unfold set11
  iterate 11 refine Below.setCell ?_ hg _
  exact h
--CUT


def set1 (w : World) (g i : Nat) (v : Value) : World := w.setCell ⟨g, i, none⟩ v
theorem set1_blk9 {w : World} {g : Nat} {t : TypeId} {c0 c1 c2 c3 c4 c5 c6 c7 c8 c9 c10 : Value} (h : w.heap[g]? = some (.cells #[c0, c1, c2, c3, c4, c5, c6, c7, c8, c9, c10] t (0, 0))) (v : Value) : (set1 w g 9 v).heap[g]? = some (.cells #[c0, c1, c2, c3, c4, c5, c6, c7, c8, v, c10] t (0, 0)) := by
  simp [set1, World.setCell, Array.getElem?_modify, h]
theorem set1_blk10 {w : World} {g : Nat} {t : TypeId} {c0 c1 c2 c3 c4 c5 c6 c7 c8 c9 c10 : Value} (h : w.heap[g]? = some (.cells #[c0, c1, c2, c3, c4, c5, c6, c7, c8, c9, c10] t (0, 0))) (v : Value) : (set1 w g 10 v).heap[g]? = some (.cells #[c0, c1, c2, c3, c4, c5, c6, c7, c8, c9, v] t (0, 0)) := by
  simp [set1, World.setCell, Array.getElem?_modify, h]
theorem set1_other (w : World) {g j : Nat} (hj : j ≠ g) (i : Nat) (v : Value) : (set1 w g i v).heap[j]? = w.heap[j]? := Below.heap_setCell w ⟨g, i, none⟩ v j hj
theorem set1_size (w : World) (g i : Nat) (v : Value) : (set1 w g i v).heap.size = w.heap.size := by simp [set1, World.setCell]
theorem set1_below {B : Nat} {a w : World} (h : Below B a w) {g : Nat} (hg : B ≤ g) (i : Nat) (v : Value) : Below B a (set1 w g i v) := Below.setCell h hg _
theorem cat3 (a b : Bs) : str a ++ { data := #[32] } ++ str b = str (a ++ 32 :: b) := by
  have h1 := str_append a [32]
  have h2 := str_append (a ++ [32]) b
  rw [← h1] at h2
  rw [List.append_assoc] at h2
  exact h2
theorem partNum_any (m : Mv) (c : UInt8) (hc : c ∈ ([112, 97, 110, 114, 65, 66, 78] : Bs)) (bk ba bb bn bo bp bt bm br : Int) (yd ye : Option Addr) (nd ydc ne yec : Nat) (bd : Bs) (be : List Bool) (h1 : -999999999 ≤ Fm.getN m c) (h2 : Fm.getN m c ≤ 999999999) (w : World) :
    Calls Tryd.prog 25 #[.agg #[.int .i64 bk, .int .i64 ba, .int .i64 bb, .int .i64 bn, .int .i64 bo, .int .i64 bp, .int .i64 bt, .int .i64 bm, .int .i64 br, .slice yd nd ydc, .slice ye ne yec], .int .u8 (c.toNat : Int), .string (str (Lib.itoa (Fm.getN m c)))] w fun e w' => e = .returned (.tuple #[.agg #[.int .i64 (Fm.copyP m ⟨bk, ba, bb, bn, bo, bp, bt, bm, br, bd, be⟩ c).k, .int .i64 (Fm.copyP m ⟨bk, ba, bb, bn, bo, bp, bt, bm, br, bd, be⟩ c).a, .int .i64 (Fm.copyP m ⟨bk, ba, bb, bn, bo, bp, bt, bm, br, bd, be⟩ c).b, .int .i64 (Fm.copyP m ⟨bk, ba, bb, bn, bo, bp, bt, bm, br, bd, be⟩ c).n, .int .i64 (Fm.copyP m ⟨bk, ba, bb, bn, bo, bp, bt, bm, br, bd, be⟩ c).o, .int .i64 (Fm.copyP m ⟨bk, ba, bb, bn, bo, bp, bt, bm, br, bd, be⟩ c).p, .int .i64 (Fm.copyP m ⟨bk, ba, bb, bn, bo, bp, bt, bm, br, bd, be⟩ c).t, .int .i64 (Fm.copyP m ⟨bk, ba, bb, bn, bo, bp, bt, bm, br, bd, be⟩ c).m, .int .i64 (Fm.copyP m ⟨bk, ba, bb, bn, bo, bp, bt, bm, br, bd, be⟩ c).r, .slice yd nd ydc, .slice ye ne yec], .bool true]) ∧ Below w.heap.size w w' := by
  have hn := Fm.number_itoa _ h1 h2
  simp only [List.mem_cons, List.not_mem_nil, or_false] at hc
  rcases hc with rfl | rfl | rfl | rfl | rfl | rfl | rfl
  · have h := part112_any bk ba bb bn bo bp bt bm br yd ye nd ydc ne yec (Lib.itoa (Fm.getN m 112)) w
    rw [hn] at h
    exact h
  · have h := part97_any bk ba bb bn bo bp bt bm br yd ye nd ydc ne yec (Lib.itoa (Fm.getN m 97)) w
    rw [hn] at h
    exact h
  · have h := part110_any bk ba bb bn bo bp bt bm br yd ye nd ydc ne yec (Lib.itoa (Fm.getN m 110)) w
    rw [hn] at h
    exact h
  · have h := part114_any bk ba bb bn bo bp bt bm br yd ye nd ydc ne yec (Lib.itoa (Fm.getN m 114)) w
    rw [hn] at h
    exact h
  · have h := part65_any bk ba bb bn bo bp bt bm br yd ye nd ydc ne yec (Lib.itoa (Fm.getN m 65)) w
    rw [hn] at h
    exact h
  · have h := part66_any bk ba bb bn bo bp bt bm br yd ye nd ydc ne yec (Lib.itoa (Fm.getN m 66)) w
    rw [hn] at h
    exact h
  · have h := part78_any bk ba bb bn bo bp bt bm br yd ye nd ydc ne yec (Lib.itoa (Fm.getN m 78)) w
    rw [hn] at h
    exact h

theorem copyP_d (m b : Mv) {c : UInt8} (h1 : c ≠ 120) (h2 : c ≠ 107) : (Fm.copyP m b c).d = b.d ∧ (Fm.copyP m b c).e = b.e := by
  unfold Fm.copyP
  rw [if_neg h1, if_neg h2]
  unfold Fm.setN
  repeat' split
  all_goals exact ⟨rfl, rfl⟩
theorem part_getN (m : Mv) (c : UInt8) : part m (c.toNat : Int) = Fm.getN m c := by
  unfold part Fm.getN
  have h : ∀ n : UInt8, ((c.toNat : Int) = (n.toNat : Int)) = (c = n) := fun n => by
    apply propext
    constructor
    · intro h
      exact UInt8.toNat.inj (by omega)
    · rintro rfl; rfl
  have h112 := h 112
  have h97 := h 97
  have h110 := h 110
  have h114 := h 114
  have h65 := h 65
  have h66 := h 66
  simp only [show ((112 : UInt8).toNat : Int) = 112 from rfl, show ((97 : UInt8).toNat : Int) = 97 from rfl, show ((110 : UInt8).toNat : Int) = 110 from rfl, show ((114 : UInt8).toNat : Int) = 114 from rfl, show ((65 : UInt8).toNat : Int) = 65 from rfl, show ((66 : UInt8).toNat : Int) = 66 from rfl] at h112 h97 h110 h114 h65 h66
  simp only [h112, h97, h110, h114, h65, h66]
theorem u8_ne {c n : UInt8} (h : c ≠ n) : ((c.toNat : Int) == (n.toNat : Int)) = false := by
  simp only [beq_eq_false_iff_ne, ne_eq]
  intro h'
  exact h (UInt8.toNat.inj (by omega))

set_option maxRecDepth 100000 in
set_option maxHeartbeats 4000000 in
theorem lineT_any (k a b n o p t mm r : Int) (xd xe : Option Addr) (dc ec : Nat) (d : Bs) (e : List Bool) (w : World) (hd : Bytes w w.heap.size xd d) (he : Bools w w.heap.size xe e) (ld : d.length ≤ 1048576) (le : e.length ≤ 1048576) :
    Calls Tryd.prog 12 #[.agg #[.int .i64 k, .int .i64 a, .int .i64 b, .int .i64 n, .int .i64 o, .int .i64 p, .int .i64 t, .int .i64 mm, .int .i64 r, .slice xd d.length dc, .slice xe e.length ec]] w fun e' w' => e' = .returned (.string (str (Fm.line ⟨k, a, b, n, o, p, t, mm, r, d, e⟩))) ∧ Below w.heap.size w w' := by
  have CN := Lib.hid name_any
  have CS := Lib.hid shapeR_any
  go_enter Tryd.func12, Tryd.ntmps12
  go_wp2_with fail
  refine (CN.out _ _ _ _ _ _ _ _ _ _ _ _ _ _ _ _).mono ?_
  rintro e' w1 ⟨rfl, hb1⟩
  have hA1 : w1.heap[w.heap.size]? = some (.cells #[.int .i64 k, .int .i64 a, .int .i64 b, .int .i64 n, .int .i64 o, .int .i64 p, .int .i64 t, .int .i64 mm, .int .i64 r, .slice xd d.length dc, .slice xe e.length ec] 37 (0, 0)) := by rw [hb1.block _ (by simp)]; exact blk_new _ _
  have hw1 : Below w.heap.size w w1 := ((Below.refl _ _).alloc (Nat.le_refl _) _).trans (hb1.mono (by simp))
  have hs1 : w.heap.size + 1 ≤ w1.heap.size := by have := hb1.size; simpa using this
  clear hb1
  obtain ⟨wd, hwd⟩ : ∃ wd, Fm.word k o = wd := ⟨_, rfl⟩
  rw [hwd]
  have HWD := Lib.hid hwd
  clear hwd
  by_cases h0 : wd = []
  · have HL : Hid (Fm.line ⟨k, a, b, n, o, p, t, mm, r, d, e⟩ = []) := by unfold Fm.line; rw [HWD.out, if_pos h0]; rfl
    subst h0
    have e1 : ((str []).toList == []) = true := by rw [str_toList]; rfl
    have e2 : (str []).toList = [] := str_toList []
    go_wp2
    go_ret
    exact ⟨by rw [HL.out]; rfl, hw1⟩
  · have e1 : ((str wd).toList == []) = false := by rw [str_toList]; cases wd <;> simp at h0 ⊢
    have H0 := Lib.hid h0
    clear h0
    go_wp2_with fail
    refine (CS.out _ _).mono ?_
    rintro e' w2 ⟨rfl, hb2⟩
    have hA2 : w2.heap[w.heap.size]? = some (.cells #[.int .i64 k, .int .i64 a, .int .i64 b, .int .i64 n, .int .i64 o, .int .i64 p, .int .i64 t, .int .i64 mm, .int .i64 r, .slice xd d.length dc, .slice xe e.length ec] 37 (0, 0)) := by rw [hb2.block _ (by omega)]; exact hA1
    have hw2 : Below w.heap.size w w2 := hw1.trans (hb2.mono (by omega))
    have hs2 : w.heap.size + 1 ≤ w2.heap.size := by have := hb2.size; omega
    clear hb2 hA1 hw1 hs1
    rw [str_data]
    obtain ⟨q, hq⟩ : ∃ q, (Fm.shape wd).2.2 = q := ⟨_, rfl⟩
    have hqm := Fm.shape_parts wd
    rw [hq] at hqm ⊢
    have HQ := Lib.hid hq
    have HQM := Lib.hid hqm
    obtain ⟨sk, hsk⟩ : ∃ sk, (Fm.shape wd).1 = sk := ⟨_, rfl⟩
    obtain ⟨so, hso⟩ : ∃ so, (Fm.shape wd).2.1 = so := ⟨_, rfl⟩
    rw [hsk, hso]
    obtain ⟨sb, hsb⟩ : ∃ sb, decide (sk ≠ 0) = sb := ⟨_, rfl⟩
    rw [hsb]
    clear hq hqm hsk hso hsb
    have hlt2 : w.heap.size < w2.heap.size := by omega
    have hne2 : w.heap.size ≠ w2.heap.size := by omega
    have cA := blk_cell hA2
    have fA := blk_frozen hA2
    go_wp2
    have hqc := parts_code q HQM.out
    have hq4 := hqc.1
    have HQC := Lib.hid hqc.2
    have hwl : wd.length ≤ 7 := by
      rw [← HWD.out]
      by_cases hz : Fm.word k o = []
      · rw [hz]; simp
      · obtain ⟨q', hq'⟩ := Fm.word_mem hz
        exact (Fm.tab_row _ hq').2.2.2.2.2.2.1
    have hszq : (str q).size = q.length := str_size q
    clear hqc
    have hA3 : (w2.alloc (.cells #[.int .i64 k, .int .i64 0, .int .i64 0, .int .i64 0, .int .i64 o, .int .i64 0, .int .i64 0, .int .i64 0, .int .i64 0, .slice none 0 0, .slice none 0 0] 37)).heap[w.heap.size]? = some (.cells #[.int .i64 k, .int .i64 a, .int .i64 b, .int .i64 n, .int .i64 o, .int .i64 p, .int .i64 t, .int .i64 mm, .int .i64 r, .slice xd d.length dc, .slice xe e.length ec] 37 (0, 0)) := by rw [blk_old _ hlt2]; exact hA2
    have HA3 := Lib.hid hA3
    have HW2 := Lib.hid hw2
    clear hA3 hA2 cA fA hw2
    go_loopw [8, 10, 11] (fun s i _ wr => ∃ (j : Nat) (tx : Bs) (bk ba bb bn bo bp bt bm br : Int) (yd ye : Option Addr) (ydc yec : Nat) (bd : Bs) (be : List Bool), j ≤ q.length ∧ i = .int .i64 j ∧ s = .string (str tx) ∧ Fm.lineGo ⟨k, a, b, n, o, p, t, mm, r, d, e⟩ (q.take j) wd (Fm.zero k o) = some (tx, ⟨bk, ba, bb, bn, bo, bp, bt, bm, br, bd, be⟩) ∧ tx.length ≤ 7 + j * 2097153 ∧
        wr.heap[w.heap.size]? = some (.cells #[.int .i64 k, .int .i64 a, .int .i64 b, .int .i64 n, .int .i64 o, .int .i64 p, .int .i64 t, .int .i64 mm, .int .i64 r, .slice xd d.length dc, .slice xe e.length ec] 37 (0, 0)) ∧ wr.heap[w2.heap.size]? = some (.cells #[.int .i64 bk, .int .i64 ba, .int .i64 bb, .int .i64 bn, .int .i64 bo, .int .i64 bp, .int .i64 bt, .int .i64 bm, .int .i64 br, .slice yd bd.length ydc, .slice ye be.length yec] 37 (0, 0)) ∧ Bytes w w.heap.size yd bd ∧ Bools w w.heap.size ye be ∧ bd.length ≤ 1048576 ∧ be.length ≤ 1048576 ∧ Below w.heap.size w wr ∧ w2.heap.size < wr.heap.size)
      (fun _ i _ _ => q.length - (intOf i).toNat)
    case atStart => exact ⟨0, wd, k, 0, 0, 0, o, 0, 0, 0, 0, none, none, 0, 0, [], [], Nat.zero_le _, rfl, rfl, rfl, by omega, HA3.out, blk_new _ _, Rd.nil, Rd.nil, by simp, by simp, HW2.out.trans ((Below.refl _ _).alloc (by omega) _), by simp⟩
    case round =>
      obtain ⟨j, tx, bk, ba, bb, bn, bo, bp, bt, bm, br, yd, ye, ydc, yec, bd, be, hj, rfl, rfl, hg, htx, hA, hB, hyd, hye, hld, hle, hw, hsz⟩ := hrel
      have HG := Lib.hid hg
      have HA := Lib.hid hA
      have HB := Lib.hid hB
      have hltA : w.heap.size < wr.heap.size := by omega
      have hneAB : w.heap.size ≠ w2.heap.size := hne2
      have cA := blk_cell hA
      have fA := blk_frozen hA
      have cB := blk_cell hB
      have fB := blk_frozen hB
      clear hg hA hB
      by_cases hlt : j < q.length
      · obtain ⟨c, hc⟩ : ∃ c, q[j] = c := ⟨_, rfl⟩
        have hcm := HQC.out c (by rw [← hc]; exact List.getElem_mem hlt)
        have HST := Lib.hid (Fm.lineGo_step ⟨k, a, b, n, o, p, t, mm, r, d, e⟩ q wd tx (Fm.zero k o) ⟨bk, ba, bb, bn, bo, bp, bt, bm, br, bd, be⟩ j hlt HG.out)
        rw [hc] at HST
        have ix : ∀ W : World, (Instr.index 9 (.string (str q)) (.int .i64 (j : Int))).run Tryd.prog W = .ok (.int .u8 (c.toNat : Int)) W := fun W => by rw [← hc]; exact str_idx q .i64 j hlt W
        clear hc
        by_cases h120 : c = 120
        · subst h120
          have ix' : ∀ W : World, (Instr.index 9 (.string (str q)) (.int .i64 (j : Int))).run Tryd.prog W = .ok (.int .u8 120) W := ix
          clear ix
          have t1 : ((120 : Int) == 120) = true := rfl
          by_cases hd0 : d = []
          · have hpt0 : Fm.partT ⟨k, a, b, n, o, p, t, mm, r, d, e⟩ 120 = none := by unfold Fm.partT; rw [if_pos rfl]; exact if_pos hd0
            have HL := Lib.hid (line_none (m := ⟨k, a, b, n, o, p, t, mm, r, d, e⟩) HWD.out HQ.out (HST.out.2 hpt0))
            have fin : str (Fm.line ⟨k, a, b, n, o, p, t, mm, r, d, e⟩) = ByteArray.empty := by rw [HL.out]; rfl
            have FIN := Lib.hid fin
            have t3 : ((d.length : Int) == 0) = true := by rw [hd0]; rfl
            clear hpt0 fin hd0
            go_wp2
            go_ret
            exact ⟨by rw [FIN.out]; rfl, hw⟩
          · have hpt0 : Fm.partT ⟨k, a, b, n, o, p, t, mm, r, d, e⟩ 120 = some (Fm.hexed d) := by unfold Fm.partT; rw [if_pos rfl]; exact if_neg hd0
            have HG2 := Lib.hid (HST.out.1 _ hpt0)
            have t3 : ((d.length : Int) == 0) = false := by
              have : d.length ≠ 0 := fun h => hd0 (List.length_eq_zero_iff.mp h)
              simp only [beq_eq_false_iff_ne, ne_eq]; omega
            have hsz1 : (str tx).size = tx.length := str_size tx
            have hsz2 : (str (Fm.hexed d)).size = 2 * d.length := (str_size _).trans (Fm.hexed_len d)
            have hil : (Fm.hexed d).length ≤ 2097152 := by rw [Fm.hexed_len]; omega
            have CX := Lib.hid hexedR_any
            clear hpt0 hd0 HST
            go_wp2_with fail
            refine (CX.out _ _ d _ (Rd.below hd hw hw.size) ld).mono ?_
            rintro e' w3 ⟨rfl, hb3⟩
            have hs3 : wr.heap.size ≤ w3.heap.size := hb3.size
            have hw3 : Below w.heap.size w w3 := hw.trans (hb3.mono (by omega))
            have HA3 := Lib.hid ((hb3.block _ hltA).trans HA.out)
            have HB3 := Lib.hid ((hb3.block _ (by omega)).trans HB.out)
            clear cA fA cB fB hb3
            have cA := blk_cell HA3.out
            have fA := blk_frozen HA3.out
            have cB := blk_cell HB3.out
            have fB := blk_frozen HB3.out
            go_wp2_with fail
            go_roundw
            case rel =>
              refine ⟨j + 1, tx ++ 32 :: Fm.hexed d, bk, ba, bb, bn, bo, bp, bt, bm, br, xd, ye, dc, yec, d, be, by omega, by go_num, ?_, HG2.out, ?_, (set1_other w3 hneAB _ _).trans HA3.out, set1_blk9 HB3.out _, hd, hye, ld, hle, set1_below hw3 (by omega) _ _, ?_⟩
              · exact congrArg Value.string (cat3 _ _)
              · rw [List.length_append, List.length_cons]; omega
              · refine Nat.lt_of_lt_of_eq ?_ (set1_size w3 _ _ _).symm; omega
            case measure => simp [intOf]; omega
        by_cases h107 : c = 107
        · subst h107
          have ix' : ∀ W : World, (Instr.index 9 (.string (str q)) (.int .i64 (j : Int))).run Tryd.prog W = .ok (.int .u8 107) W := ix
          clear ix
          have t1 : ((107 : Int) == 120) = false := rfl
          have t2 : ((107 : Int) == 107) = true := rfl
          have hpt0 : Fm.partT ⟨k, a, b, n, o, p, t, mm, r, d, e⟩ 107 = some (Fm.kept e) := by unfold Fm.partT; rw [if_neg (by decide), if_pos rfl]
          have HG2 := Lib.hid (HST.out.1 _ hpt0)
          have hil := Fm.partT_len hpt0 ld le
          have hsz1 : (str tx).size = tx.length := str_size tx
          have hsz2 : (str (Fm.kept e)).size = (Fm.kept e).length := str_size _
          have CX := Lib.hid keptR_any
          clear hpt0 HST
          go_wp2_with fail
          refine (CX.out _ _ e _ (Rd.below he hw hw.size) le).mono ?_
          rintro e' w3 ⟨rfl, hb3⟩
          have hs3 : wr.heap.size ≤ w3.heap.size := hb3.size
          have hw3 : Below w.heap.size w w3 := hw.trans (hb3.mono (by omega))
          have HA3 := Lib.hid ((hb3.block _ hltA).trans HA.out)
          have HB3 := Lib.hid ((hb3.block _ (by omega)).trans HB.out)
          clear cA fA cB fB hb3
          have cA := blk_cell HA3.out
          have fA := blk_frozen HA3.out
          have cB := blk_cell HB3.out
          have fB := blk_frozen HB3.out
          go_wp2_with fail
          go_roundw
          case rel =>
            refine ⟨j + 1, tx ++ 32 :: Fm.kept e, bk, ba, bb, bn, bo, bp, bt, bm, br, yd, xe, ydc, ec, bd, e, by omega, by go_num, ?_, HG2.out, ?_, (set1_other w3 hneAB _ _).trans HA3.out, set1_blk10 HB3.out _, hyd, he, hld, le, set1_below hw3 (by omega) _ _, ?_⟩
            · exact congrArg Value.string (cat3 _ _)
            · rw [List.length_append, List.length_cons]; omega
            · refine Nat.lt_of_lt_of_eq ?_ (set1_size w3 _ _ _).symm; omega
          case measure => simp [intOf]; omega
        have hcn : c ∈ ([112, 97, 110, 114, 65, 66, 78] : Bs) := by
          simp only [List.mem_cons, List.not_mem_nil, or_false] at hcm ⊢
          rcases hcm with h | h | h | h | h | h | h | h | h
          · exact absurd h h120
          · exact absurd h h107
          all_goals simp [h]
        have t1 : ((c.toNat : Int) == 120) = false := u8_ne h120
        have t2 : ((c.toNat : Int) == 107) = false := u8_ne h107
        obtain ⟨f, hf⟩ : ∃ f, Fm.getN ⟨k, a, b, n, o, p, t, mm, r, d, e⟩ c = f := ⟨_, rfl⟩
        have hpv : part ⟨k, a, b, n, o, p, t, mm, r, d, e⟩ (c.toNat : Int) = f := (part_getN _ _).trans hf
        have CPN := partNum_any ⟨k, a, b, n, o, p, t, mm, r, d, e⟩ c hcn bk ba bb bn bo bp bt bm br yd ye bd.length ydc be.length yec bd be
        rw [hf] at CPN
        have hcd := copyP_d ⟨k, a, b, n, o, p, t, mm, r, d, e⟩ ⟨bk, ba, bb, bn, bo, bp, bt, bm, br, bd, be⟩ h120 h107
        have hpt0 : Fm.partT ⟨k, a, b, n, o, p, t, mm, r, d, e⟩ c = if f < -999999999 ∨ 999999999 < f then none else some (Lib.itoa f) := by
          unfold Fm.partT
          rw [if_neg h120, if_neg h107, hf]
          rfl
        obtain ⟨bb2, hbb2⟩ : ∃ bb2, Fm.copyP ⟨k, a, b, n, o, p, t, mm, r, d, e⟩ ⟨bk, ba, bb, bn, bo, bp, bt, bm, br, bd, be⟩ c = bb2 := ⟨_, rfl⟩
        rw [hbb2] at hcd CPN HST
        obtain ⟨zk, za, zb, zn, zo, zp, zt, zm, zr, zd, ze⟩ := bb2
        obtain ⟨rfl, rfl⟩ : zd = bd ∧ ze = be := hcd
        obtain ⟨ci, hci⟩ : ∃ ci : Int, (c.toNat : Int) = ci := ⟨_, rfl⟩
        rw [hci] at t1 t2 hpv CPN ix
        have CPN := Lib.hid CPN
        have CG := Lib.hid get_any
        have CD := Lib.hid decimal_any
        clear hcm hcn h120 h107 hf hbb2 hci HA3 HW2
        go_wp2_with fail
        go_still_tail 4, (by kernel_rfl)
        change wpList _ _ _ _ _ wr.drew
        go_wp2_with fail
        refine (CG.out _ _ _ _ _ _ _ _ _ d e _ _ _ _ _ _ _ _).mono ?_
        rintro e' w3 ⟨rfl, hb3'⟩
        rw [hpv]
        clear hpv
        have hb3 : Below wr.heap.size wr w3 := (Below.refl _ wr).drew.trans hb3'
        have hs3 : wr.heap.size ≤ w3.heap.size := hb3.size
        have hw3 : Below w.heap.size w w3 := hw.trans (hb3.mono (by omega))
        have HA3 := Lib.hid ((hb3.block _ hltA).trans HA.out)
        have HB3 := Lib.hid ((hb3.block _ (by omega)).trans HB.out)
        clear cA fA cB fB hb3 hb3'
        by_cases hr : f < -999999999 ∨ 999999999 < f
        · rw [if_pos hr] at hpt0
          have HL := Lib.hid (line_none (m := ⟨k, a, b, n, o, p, t, mm, r, d, e⟩) HWD.out HQ.out (HST.out.2 hpt0))
          clear hpt0
          have fin : str (Fm.line ⟨k, a, b, n, o, p, t, mm, r, d, e⟩) = ByteArray.empty := by rw [HL.out]; rfl
          have FIN := Lib.hid fin
          clear fin
          rcases hr with hr | hr
          · go_wp2
            go_ret
            exact ⟨by rw [FIN.out]; rfl, hw3⟩
          · by_cases hr' : f < -999999999
            all_goals
              go_wp2
              go_ret
              exact ⟨by rw [FIN.out]; rfl, hw3⟩
        · have hr1 : -999999999 ≤ f := by omega
          have hr2 : f ≤ 999999999 := by omega
          rw [if_neg hr] at hpt0
          have HG2 := Lib.hid (HST.out.1 _ hpt0)
          have hil := Fm.partT_len hpt0 ld le
          have hsz1 : (str tx).size = tx.length := str_size tx
          have hsz2 : (str (Lib.itoa f)).size = (Lib.itoa f).length := str_size _
          have hcat := str_append (tx ++ [32]) (Lib.itoa f)
          clear hpt0 hr HST
          go_wp2_with fail
          refine (CD.out _ _ hr1 hr2).mono ?_
          rintro e' w4 ⟨rfl, hb4⟩
          have hs4 := hb4.size
          have hw4 : Below w.heap.size w w4 := hw3.trans (hb4.mono (by omega))
          have HA4 := Lib.hid ((hb4.block _ (by omega)).trans HA3.out)
          have HB4 := Lib.hid ((hb4.block _ (by omega)).trans HB3.out)
          have cA := blk_cell HA4.out
          have fA := blk_frozen HA4.out
          have cB := blk_cell HB4.out
          have fB := blk_frozen HB4.out
          clear hb4 
          go_wp2_with fail
          go_region_with (first
            | (refine (CD.out _ _ hr1 hr2).mono ?_; rintro e' w5 ⟨rfl, hb5'⟩; have hb5 : Below w4.heap.size w4 w5 := (Below.refl _ w4).drew.trans hb5'; have hs5 := hb5.size; have hw5 := hw4.trans (hb5.mono (by omega)); have HA5 := Lib.hid ((hb5.block _ (by omega)).trans HA4.out); have HB5 := Lib.hid ((hb5.block _ (by omega)).trans HB4.out); have cB5 := blk_cell HB5.out; have fB5 := blk_frozen HB5.out; clear hb5 hb5')
            | (refine (CPN.out hr1 hr2 _).mono ?_; rintro e' w6 ⟨rfl, hb6⟩; have hs6 := hb6.size; have hw6 := hw5.trans (hb6.mono (by omega)); have HA6 := Lib.hid ((hb6.block _ (by omega)).trans HA5.out); have HB6 := Lib.hid ((hb6.block _ (by omega)).trans HB5.out); have cB6 := blk_cell HB6.out; have fB6 := blk_frozen HB6.out; clear hb6))
          all_goals
            go_wp2_with fail
            go_roundw
            case rel =>
              refine ⟨j + 1, tx ++ 32 :: Lib.itoa f, zk, za, zb, zn, zo, zp, zt, zm, zr, yd, ye, ydc, yec, _, _, by omega, by go_num, ?_, HG2.out, ?_, (set11_other w6 hneAB _ _ _ _ _ _ _ _ _ _ _).trans HA6.out, set11_blk HB6.out _ _ _ _ _ _ _ _ _ _ _, hyd, hye, hld, hle, set11_below hw6 (by omega) _ _ _ _ _ _ _ _ _ _ _, ?_⟩
              · exact congrArg Value.string (cat3 _ _)
              · rw [List.length_append, List.length_cons]; omega
              · refine Nat.lt_of_lt_of_eq ?_ (set11_size w6 _ _ _ _ _ _ _ _ _ _ _ _).symm; omega
            case measure => simp [intOf]; omega
      · obtain rfl : j = q.length := by omega
        rw [List.take_length] at HG
        have hL := line_some' (m := ⟨k, a, b, n, o, p, t, mm, r, d, e⟩) HWD.out H0.out HQ.out HG.out
        have HL := Lib.hid hL
        clear hL
        have CSM := Lib.hid sameR_any
        go_wp2_with fail
        refine (CSM.out _ _ _ _ _ _ _ _ _ _ _ _ _ d e _ _ _ _ _ _ _ _ _ _ _ _ _ bd be _ (Rd.below hd hw hw.size) (Rd.below hyd hw hw.size) (Rd.below he hw hw.size) (Rd.below hye hw hw.size) le hle).mono ?_
        rintro e' w3 ⟨rfl, hb3⟩
        have hw3 : Below w.heap.size w w3 := hw.trans (hb3.mono (by omega))
        cases hsm : Fm.same ⟨k, a, b, n, o, p, t, mm, r, d, e⟩ ⟨bk, ba, bb, bn, bo, bp, bt, bm, br, bd, be⟩ with
        | true =>
          rw [hsm, if_pos rfl] at HL
          have FIN := Lib.hid (show str (Fm.line ⟨k, a, b, n, o, p, t, mm, r, d, e⟩) = str tx from by rw [HL.out])
          clear hsm
          go_wp2_with fail
          go_ret
          exact ⟨by rw [FIN.out]; rfl, hw3⟩
        | false =>
          rw [hsm, if_neg (by simp)] at HL
          have FIN := Lib.hid (show str (Fm.line ⟨k, a, b, n, o, p, t, mm, r, d, e⟩) = ByteArray.empty from by rw [HL.out]; rfl)
          clear hsm
          go_wp2_with fail

          go_ret
          exact ⟨by rw [FIN.out]; rfl, hw3⟩
end Go.Proofs.YtjcbfbdbgplakaaDoor
