import Derived.Deep.RegionWith
import Derived.StillTailTactics
import Derived.Lib.OthersKept
import Derived.Laws.RangeString
import Derived.Test.YtjcbfbdbgplakaaDoorW8
namespace Go.Proofs.YtjcbfbdbgplakaaDoor
open Go.RowKit
open Fm (Bs Mv)
theorem off_get (m : Mv) (c : UInt8) (yd ye : Option Addr) (nd ydc ne yec : Nat) : (#[.int .i64 m.k, .int .i64 m.a, .int .i64 m.b, .int .i64 m.n, .int .i64 m.o, .int .i64 m.p, .int .i64 m.t, .int .i64 m.m, .int .i64 m.r, .slice yd nd ydc, .slice ye ne yec] : Array Value)[off (c.toNat : Int)]? = some (.int .i64 (Fm.getN m c)) := by
  unfold off Fm.getN
  have h : ∀ n : UInt8, ((c.toNat : Int) = (n.toNat : Int)) = (c = n) := fun n => by
    apply propext
    constructor
    · intro h
      exact UInt8.toNat.inj (by omega)
    · rintro rfl; rfl
  have h112 := h 112
  have h97 := h 97
  have h110 := h 110
  have h114 := h 114
  have h65 := h 65
  have h66 := h 66
  simp only [show ((112 : UInt8).toNat : Int) = 112 from rfl, show ((97 : UInt8).toNat : Int) = 97 from rfl, show ((110 : UInt8).toNat : Int) = 110 from rfl, show ((114 : UInt8).toNat : Int) = 114 from rfl, show ((65 : UInt8).toNat : Int) = 65 from rfl, show ((66 : UInt8).toNat : Int) = 66 from rfl] at h112 h97 h110 h114 h65 h66
  simp only [h112, h97, h110, h114, h65, h66]
  repeat' split
  all_goals rfl
theorem off_set (m : Mv) (c : UInt8) (v : Int) {w : World} {g : Nat} {t : TypeId} {yd ye : Option Addr} {nd ydc ne yec : Nat} (hb : w.heap[g]? = some (.cells #[.int .i64 m.k, .int .i64 m.a, .int .i64 m.b, .int .i64 m.n, .int .i64 m.o, .int .i64 m.p, .int .i64 m.t, .int .i64 m.m, .int .i64 m.r, .slice yd nd ydc, .slice ye ne yec] t (0, 0))) : (w.setCell ⟨g, off (c.toNat : Int), none⟩ (.int .i64 v)).heap[g]? = some (.cells #[.int .i64 (Fm.setN m c v).k, .int .i64 (Fm.setN m c v).a, .int .i64 (Fm.setN m c v).b, .int .i64 (Fm.setN m c v).n, .int .i64 (Fm.setN m c v).o, .int .i64 (Fm.setN m c v).p, .int .i64 (Fm.setN m c v).t, .int .i64 (Fm.setN m c v).m, .int .i64 (Fm.setN m c v).r, .slice yd nd ydc, .slice ye ne yec] t (0, 0)) := by
  have h : ∀ n : UInt8, ((c.toNat : Int) = (n.toNat : Int)) = (c = n) := fun n => by
    apply propext
    constructor
    · intro h
      exact UInt8.toNat.inj (by omega)
    · rintro rfl; rfl
  have h112 := h 112
  have h97 := h 97
  have h110 := h 110
  have h114 := h 114
  have h65 := h 65
  have h66 := h 66
  simp only [show ((112 : UInt8).toNat : Int) = 112 from rfl, show ((97 : UInt8).toNat : Int) = 97 from rfl, show ((110 : UInt8).toNat : Int) = 110 from rfl, show ((114 : UInt8).toNat : Int) = 114 from rfl, show ((65 : UInt8).toNat : Int) = 65 from rfl, show ((66 : UInt8).toNat : Int) = 66 from rfl] at h112 h97 h110 h114 h65 h66
  unfold off Fm.setN
  simp only [h112, h97, h110, h114, h65, h66]
  repeat' split
  all_goals simp [World.setCell, Array.getElem?_modify, hb]
theorem off_lt (c : Int) : off c < 11 := by
  unfold off
  repeat' split
  all_goals omega
theorem cat3' (a b : Bs) : str a ++ ({ data := #[32] } ++ str b) = str (a ++ 32 :: b) := by
  have h1 := str_append [32] b
  have h2 := str_append a ([32] ++ b)
  rw [← h1] at h2
  exact h2
theorem iter_blk (w : World) (k : Nat) (s : ByteArray) (pos j : Nat) (h : j ≠ k) : (w.iterAt k s pos).heap[j]? = w.heap[j]? := Lib.iterAt_other w k j s pos h
theorem str_get (q : Bs) (j : Nat) (h : j < q.length) : (str q)[j]'(by rw [str_size]; exact h) = q[j] := by
  simp [str, ByteArray.getElem_eq_getElem_data]
set_option maxRecDepth 100000 in
set_option maxHeartbeats 4000000 in
theorem lineF_any (k a b n o p t mm r : Int) (xd xe : Option Addr) (dc ec : Nat) (d : Bs) (e : List Bool) (w : World) (hE : Env w) (hd : Bytes w w.heap.size xd d) (he : Bools w w.heap.size xe e) (ld : d.length ≤ 1048576) (le : e.length ≤ 1048576) :
    Calls Tryd.prog 16 #[.agg #[.int .i64 k, .int .i64 a, .int .i64 b, .int .i64 n, .int .i64 o, .int .i64 p, .int .i64 t, .int .i64 mm, .int .i64 r, .slice xd d.length dc, .slice xe e.length ec]] w fun e' w' => e' = .returned (.string (str (Fm.line ⟨k, a, b, n, o, p, t, mm, r, d, e⟩))) ∧ Below w.heap.size w w' := by
  have CN := Lib.hid word_any
  have CS := Lib.hid shapeF_any
  go_enter Tryd.func16, Tryd.ntmps16
  go_wp2_with fail
  refine (CN.out _ _ _ _ _ _ _ _ _ _ _ _ _ _ _ _ (hE.below ((Below.refl _ _).alloc (Nat.le_refl _) _))).mono ?_
  rintro e' w1 ⟨rfl, hb1⟩
  have hA1 : w1.heap[w.heap.size]? = some (.cells #[.int .i64 k, .int .i64 a, .int .i64 b, .int .i64 n, .int .i64 o, .int .i64 p, .int .i64 t, .int .i64 mm, .int .i64 r, .slice xd d.length dc, .slice xe e.length ec] 39 (0, 0)) := by rw [hb1.block _ (by simp)]; exact blk_new _ _
  have hw1 : Below w.heap.size w w1 := ((Below.refl _ _).alloc (Nat.le_refl _) _).trans (hb1.mono (by simp))
  have hs1 : w.heap.size + 1 ≤ w1.heap.size := by have := hb1.size; simpa using this
  clear hb1
  obtain ⟨wd, hwd⟩ : ∃ wd, Fm.word k o = wd := ⟨_, rfl⟩
  rw [hwd]
  have HWD := Lib.hid hwd
  clear hwd
  by_cases h0 : wd = []
  · have HL : Hid (Fm.line ⟨k, a, b, n, o, p, t, mm, r, d, e⟩ = []) := by unfold Fm.line; rw [HWD.out, if_pos h0]; rfl
    subst h0
    have e1 : ((str []).toList == []) = true := by rw [str_toList]; rfl
    have e2 : (str []).toList = [] := str_toList []
    go_wp2
    go_ret
    exact ⟨by rw [HL.out]; rfl, hw1⟩
  · have e1 : ((str wd).toList == []) = false := by rw [str_toList]; cases wd <;> simp at h0 ⊢
    have H0 := Lib.hid h0
    clear h0
    have hlt1 : w.heap.size < w1.heap.size := by omega
    have hne1 : w.heap.size ≠ w1.heap.size := by omega
    have cA := blk_cell hA1
    have fA := blk_frozen hA1
    go_wp2_with fail
    refine (CS.out _ _).mono ?_
    rintro e' w2 ⟨rfl, rfl⟩
    rw [str_data]
    obtain ⟨q, hq⟩ : ∃ q, (Fm.shape wd).2.2 = q := ⟨_, rfl⟩
    have hqm := Fm.shape_parts wd
    rw [hq] at hqm ⊢
    have HQ := Lib.hid hq
    have hqc := parts_code q hqm
    obtain ⟨sk, hsk⟩ : ∃ sk, (Fm.shape wd).1 = sk := ⟨_, rfl⟩
    obtain ⟨so, hso⟩ : ∃ so, (Fm.shape wd).2.1 = so := ⟨_, rfl⟩
    rw [hsk, hso]
    have hq4 := hqc.1
    have HQC := Lib.hid hqc.2
    have hwl : wd.length ≤ 7 := by
      rw [← HWD.out]
      by_cases hz : Fm.word k o = []
      · rw [hz]; simp
      · obtain ⟨q', hq'⟩ := Fm.word_mem hz
        exact (Fm.tab_row _ hq').2.2.2.2.2.2.1
    have hszq : (str q).size = q.length := str_size q
    clear hq hqm hsk hso hqc
    have HA2 := Lib.hid (show ((w1.alloc (.cells #[.int .i64 k, .int .i64 0, .int .i64 0, .int .i64 0, .int .i64 o, .int .i64 0, .int .i64 0, .int .i64 0, .int .i64 0, .slice none 0 0, .slice none 0 0] 39)).iter (str q) 0).heap[w.heap.size]? = some (.cells #[.int .i64 k, .int .i64 a, .int .i64 b, .int .i64 n, .int .i64 o, .int .i64 p, .int .i64 t, .int .i64 mm, .int .i64 r, .slice xd d.length dc, .slice xe e.length ec] 39 (0, 0)) from by unfold World.iter; rw [blk_old _ (by simp; omega), blk_old _ hlt1]; exact hA1)
    have HA3 := Lib.hid (show ((w1.alloc (.cells #[.int .i64 k, .int .i64 0, .int .i64 0, .int .i64 0, .int .i64 o, .int .i64 0, .int .i64 0, .int .i64 0, .int .i64 0, .slice none 0 0, .slice none 0 0] 39)).iter (str q) 0).heap[w1.heap.size]? = some (.cells #[.int .i64 k, .int .i64 0, .int .i64 0, .int .i64 0, .int .i64 o, .int .i64 0, .int .i64 0, .int .i64 0, .int .i64 0, .slice none 0 0, .slice none 0 0] 39 (0, 0)) from by unfold World.iter; rw [blk_old _ (by simp)]; exact blk_new _ _)
    have HA4 := Lib.hid (show ((w1.alloc (.cells #[.int .i64 k, .int .i64 0, .int .i64 0, .int .i64 0, .int .i64 o, .int .i64 0, .int .i64 0, .int .i64 0, .int .i64 0, .slice none 0 0, .slice none 0 0] 39)).iter (str q) 0).heap[w1.heap.size + 1]? = some (.stringIter (str q) 0) from by have := World.iter_heap (w1.alloc (.cells #[.int .i64 k, .int .i64 0, .int .i64 0, .int .i64 0, .int .i64 o, .int .i64 0, .int .i64 0, .int .i64 0, .int .i64 0, .slice none 0 0, .slice none 0 0] 39)) (str q) 0; simpa using this)
    have HW1 := Lib.hid hw1
    have HWI := Lib.hid (show Below w.heap.size w ((w1.alloc (.cells #[.int .i64 k, .int .i64 0, .int .i64 0, .int .i64 0, .int .i64 o, .int .i64 0, .int .i64 0, .int .i64 0, .int .i64 0, .slice none 0 0, .slice none 0 0] 39)).iter (str q) 0) from by unfold World.iter; exact (hw1.alloc (by omega) _).alloc (by simp; omega) _)
    have HWS := Lib.hid (show w1.heap.size + 1 < ((w1.alloc (.cells #[.int .i64 k, .int .i64 0, .int .i64 0, .int .i64 0, .int .i64 o, .int .i64 0, .int .i64 0, .int .i64 0, .int .i64 0, .slice none 0 0, .slice none 0 0] 39)).iter (str q) 0).heap.size from by unfold World.iter; simp)
    have HE := Lib.hid hE
    clear hA1 hw1 hE
    go_wp2_with fail
    clear cA fA
    go_loopw [3] (fun sv wr => ∃ (j : Nat) (tx : Bs) (bk ba bb bn bo bp bt bm br : Int) (yd ye : Option Addr) (ydc yec : Nat) (bd : Bs) (be : List Bool), j ≤ q.length ∧ sv = .string (str tx) ∧ Fm.lineGo ⟨k, a, b, n, o, p, t, mm, r, d, e⟩ (q.take j) wd (Fm.zero k o) = some (tx, ⟨bk, ba, bb, bn, bo, bp, bt, bm, br, bd, be⟩) ∧ tx.length ≤ 7 + j * 2097153 ∧
        wr.heap[w.heap.size]? = some (.cells #[.int .i64 k, .int .i64 a, .int .i64 b, .int .i64 n, .int .i64 o, .int .i64 p, .int .i64 t, .int .i64 mm, .int .i64 r, .slice xd d.length dc, .slice xe e.length ec] 39 (0, 0)) ∧ wr.heap[w1.heap.size]? = some (.cells #[.int .i64 bk, .int .i64 ba, .int .i64 bb, .int .i64 bn, .int .i64 bo, .int .i64 bp, .int .i64 bt, .int .i64 bm, .int .i64 br, .slice yd bd.length ydc, .slice ye be.length yec] 39 (0, 0)) ∧ wr.heap[w1.heap.size + 1]? = some (.stringIter (str q) j) ∧ Bytes w w.heap.size yd bd ∧ Bools w w.heap.size ye be ∧ bd.length ≤ 1048576 ∧ be.length ≤ 1048576 ∧ Below w.heap.size w wr ∧ w1.heap.size + 1 < wr.heap.size)
      (fun _ wr => q.length - wr.iterPos (w1.heap.size + 1))
    case atStart => exact ⟨0, wd, k, 0, 0, 0, o, 0, 0, 0, 0, none, none, 0, 0, [], [], Nat.zero_le _, rfl, rfl, by omega, HA2.out, HA3.out, HA4.out, Rd.nil, Rd.nil, by simp, by simp, HWI.out, HWS.out⟩
    case round =>
      obtain ⟨j, tx, bk, ba, bb, bn, bo, bp, bt, bm, br, yd, ye, ydc, yec, bd, be, hj, rfl, hg, htx, hA, hB, hit, hyd, hye, hld, hle, hw, hsz⟩ := hrel
      have HG := Lib.hid hg
      have HA := Lib.hid hA
      have HB := Lib.hid hB
      have HI := Lib.hid hit
      have hltA : w.heap.size < wr.heap.size := by omega
      have hneAB : w.heap.size ≠ w1.heap.size := hne1
      clear hg hA hB
      by_cases hlt : j < q.length
      · obtain ⟨c, hc⟩ : ∃ c, q[j] = c := ⟨_, rfl⟩
        have hcm := HQC.out c (by rw [← hc]; exact List.getElem_mem hlt)
        have HST := Lib.hid (Fm.lineGo_step ⟨k, a, b, n, o, p, t, mm, r, d, e⟩ q wd tx (Fm.zero k o) ⟨bk, ba, bb, bn, bo, bp, bt, bm, br, bd, be⟩ j hlt HG.out)
        rw [hc] at HST
        have hc128 : c.toNat < 128 := by
          simp only [List.mem_cons, List.not_mem_nil, or_false] at hcm
          rcases hcm with rfl | rfl | rfl | rfl | rfl | rfl | rfl | rfl | rfl <;> decide
        have hgc : ((str q)[j]'(by rw [hszq]; exact hlt)).toNat = c.toNat := by rw [← hc]; exact congrArg UInt8.toNat (str_get q j hlt)
        have nx : ∀ ty : TypeId, (Instr.next (.pointer (some ⟨w1.heap.size + 1, 0, none⟩)) true ty).run Tryd.prog wr = .ok (.tuple #[.bool true, .int .i64 (j : Int), .int .i32 (c.toNat : Int)]) (wr.iterAt (w1.heap.size + 1) (str q) (j + 1)) := fun ty => by
          have := Lib.run_next_ascii_at (P := Tryd.prog) wr (w1.heap.size + 1) (str q) j ty hit (by rw [hszq]; exact hlt) (by rw [hgc]; exact hc128)
          rwa [hgc] at this
        have hA' := (iter_blk wr (w1.heap.size + 1) (str q) (j + 1) w.heap.size (by omega)).trans HA.out
        have hB' := (iter_blk wr (w1.heap.size + 1) (str q) (j + 1) w1.heap.size (by omega)).trans HB.out
        have hI' := Lib.iterAt_heap wr (w1.heap.size + 1) (str q) j (j + 1) hit
        have hw' := Lib.below_iterAt hw (show w.heap.size ≤ w1.heap.size + 1 by omega) (str q) (j + 1)
        have hsz' : w1.heap.size + 1 < (wr.iterAt (w1.heap.size + 1) (str q) (j + 1)).heap.size := by rw [Lib.iterAt_size]; exact hsz
        obtain ⟨wn, hwn⟩ : ∃ wn, wr.iterAt (w1.heap.size + 1) (str q) (j + 1) = wn := ⟨_, rfl⟩
        rw [hwn] at nx hA' hB' hI' hw' hsz'
        have HA := Lib.hid hA'
        have HB := Lib.hid hB'
        have HI := Lib.hid hI'
        have hltN : w.heap.size < wn.heap.size := by omega
        have cA := blk_cell hA'
        have fA := blk_frozen hA'
        have cB := blk_cell hB'
        have fB := blk_frozen hB'
        have hpos : wn.iterPos (w1.heap.size + 1) = j + 1 := by simp [World.iterPos, hI']
        have hpos0 : wr.iterPos (w1.heap.size + 1) = j := by simp [World.iterPos, hit]
        have HPOS := Lib.hid hpos
        have HPOS0 := Lib.hid hpos0
        clear hc hA' hB' hI' hgc hc128 hwn hit hw hltA hsz hpos hpos0
        by_cases h120 : c = 120
        · subst h120
          have nx' : ∀ ty : TypeId, (Instr.next (.pointer (some ⟨w1.heap.size + 1, 0, none⟩)) true ty).run Tryd.prog wr = .ok (.tuple #[.bool true, .int .i64 (j : Int), .int .i32 120]) wn := nx
          clear nx
          have t1 : ((120 : Int) == 120) = true := rfl
          by_cases hd0 : d = []
          · have hpt0 : Fm.partT ⟨k, a, b, n, o, p, t, mm, r, d, e⟩ 120 = none := by unfold Fm.partT; rw [if_pos rfl]; exact if_pos hd0
            have HL := Lib.hid (line_none (m := ⟨k, a, b, n, o, p, t, mm, r, d, e⟩) HWD.out HQ.out (HST.out.2 hpt0))
            have fin : str (Fm.line ⟨k, a, b, n, o, p, t, mm, r, d, e⟩) = ByteArray.empty := by rw [HL.out]; rfl
            have FIN := Lib.hid fin
            have t3 : ((d.length : Int) == 0) = true := by rw [hd0]; rfl
            clear hpt0 fin hd0
            go_wp2_with fail
            go_ret
            exact ⟨by rw [FIN.out]; rfl, set1_below hw' (by omega) _ _⟩
          · have hpt0 : Fm.partT ⟨k, a, b, n, o, p, t, mm, r, d, e⟩ 120 = some (Fm.hexed d) := by unfold Fm.partT; rw [if_pos rfl]; exact if_neg hd0
            have HG2 := Lib.hid (HST.out.1 _ hpt0)
            have t3 : ((d.length : Int) == 0) = false := by
              have : d.length ≠ 0 := fun h => hd0 (List.length_eq_zero_iff.mp h)
              simp only [beq_eq_false_iff_ne, ne_eq]; omega
            have hsz1 : (str tx).size = tx.length := str_size tx
            have hsz2 : (str (Fm.hexed d)).size = 2 * d.length := (str_size _).trans (Fm.hexed_len d)
            have hil : (Fm.hexed d).length ≤ 2097152 := by rw [Fm.hexed_len]; omega
            have CX := Lib.hid hexF_any
            have hwq : Below w.heap.size w (set1 wn w1.heap.size 9 (.slice xd d.length dc)) := set1_below hw' (by omega) _ _
            have HAq := Lib.hid ((set1_other wn hneAB 9 (.slice xd d.length dc)).trans HA.out)
            have HBq := Lib.hid (set1_blk9 HB.out (.slice xd d.length dc))
            have HIq := Lib.hid ((set1_other wn (show w1.heap.size + 1 ≠ w1.heap.size by omega) 9 (.slice xd d.length dc)).trans HI.out)
            have hzq : (set1 wn w1.heap.size 9 (.slice xd d.length dc)).heap.size = wn.heap.size := set1_size _ _ _ _
            have CP := Lib.hid (CX.out _ dc d (set1 wn w1.heap.size 9 (.slice xd d.length dc)) (Rd.below hd hwq hwq.size) ld)
            clear hpt0 hd0 HST
            go_wp2_with fail
            refine CP.out.mono ?_
            rintro e' w3 ⟨rfl, hb3⟩
            have hs3 := hb3.size
            have hw3 : Below w.heap.size w w3 := hwq.trans (hb3.mono (by omega))
            have HA3 := Lib.hid ((hb3.block _ (by omega)).trans HAq.out)
            have HB3 := Lib.hid ((hb3.block _ (by omega)).trans HBq.out)
            have HI3 := Lib.hid ((hb3.block _ (by omega)).trans HIq.out)
            clear hb3
            go_wp2_with fail
            go_roundw
            case rel =>
              refine ⟨j + 1, tx ++ 32 :: Fm.hexed d, bk, ba, bb, bn, bo, bp, bt, bm, br, xd, ye, dc, yec, d, be, by omega, ?_, HG2.out, ?_, HA3.out, HB3.out, HI3.out, hd, hye, ld, hle, hw3, by omega⟩
              · exact congrArg Value.string (cat3' _ _)
              · rw [List.length_append, List.length_cons]; omega
            case measure =>
              have h3 := HI3.out
              have : w3.iterPos (w1.heap.size + 1) = j + 1 := by simp [World.iterPos, h3]
              rw [this, HPOS0.out]; omega
        by_cases h107 : c = 107
        · subst h107
          have nx' : ∀ ty : TypeId, (Instr.next (.pointer (some ⟨w1.heap.size + 1, 0, none⟩)) true ty).run Tryd.prog wr = .ok (.tuple #[.bool true, .int .i64 (j : Int), .int .i32 107]) wn := nx
          clear nx
          have t1 : ((107 : Int) == 120) = false := rfl
          have t2 : ((107 : Int) == 107) = true := rfl
          have hpt0 : Fm.partT ⟨k, a, b, n, o, p, t, mm, r, d, e⟩ 107 = some (Fm.kept e) := by unfold Fm.partT; rw [if_neg (by decide), if_pos rfl]
          have HG2 := Lib.hid (HST.out.1 _ hpt0)
          have hil := Fm.partT_len hpt0 ld le
          have hsz1 : (str tx).size = tx.length := str_size tx
          have hsz2 : (str (Fm.kept e)).size = (Fm.kept e).length := str_size _
          have CX := Lib.hid keptF_any
          have hwq : Below w.heap.size w (set1 wn w1.heap.size 10 (.slice xe e.length ec)) := set1_below hw' (by omega) _ _
          have HAq := Lib.hid ((set1_other wn hneAB 10 (.slice xe e.length ec)).trans HA.out)
          have HBq := Lib.hid (set1_blk10 HB.out (.slice xe e.length ec))
          have HIq := Lib.hid ((set1_other wn (show w1.heap.size + 1 ≠ w1.heap.size by omega) 10 (.slice xe e.length ec)).trans HI.out)
          have hzq : (set1 wn w1.heap.size 10 (.slice xe e.length ec)).heap.size = wn.heap.size := set1_size _ _ _ _
          have CP := Lib.hid (CX.out _ ec e (set1 wn w1.heap.size 10 (.slice xe e.length ec)) (Rd.below he hwq hwq.size) le)
          clear hpt0 HST
          go_wp2_with fail
          refine CP.out.mono ?_
          rintro e' w3 ⟨rfl, hb3⟩
          have hs3 := hb3.size
          have hw3 : Below w.heap.size w w3 := hwq.trans (hb3.mono (by omega))
          have HA3 := Lib.hid ((hb3.block _ (by omega)).trans HAq.out)
          have HB3 := Lib.hid ((hb3.block _ (by omega)).trans HBq.out)
          have HI3 := Lib.hid ((hb3.block _ (by omega)).trans HIq.out)
          clear hb3
          go_wp2_with fail
          go_roundw
          case rel =>
            refine ⟨j + 1, tx ++ 32 :: Fm.kept e, bk, ba, bb, bn, bo, bp, bt, bm, br, yd, xe, ydc, ec, bd, e, by omega, ?_, HG2.out, ?_, HA3.out, HB3.out, HI3.out, hyd, he, hld, le, hw3, by omega⟩
            · exact congrArg Value.string (cat3' _ _)
            · rw [List.length_append, List.length_cons]; omega
          case measure =>
            have h3 := HI3.out
            have : w3.iterPos (w1.heap.size + 1) = j + 1 := by simp [World.iterPos, h3]
            rw [this, HPOS0.out]; omega
        have t1 : ((c.toNat : Int) == 120) = false := u8_ne h120
        have t2 : ((c.toNat : Int) == 107) = false := u8_ne h107
        obtain ⟨f, hf⟩ : ∃ f, Fm.getN ⟨k, a, b, n, o, p, t, mm, r, d, e⟩ c = f := ⟨_, rfl⟩
        have ga : wn.cell? ⟨w.heap.size, off (c.toNat : Int), none⟩ = some (.int .i64 f) := by
          rw [cA]; exact (off_get ⟨k, a, b, n, o, p, t, mm, r, d, e⟩ c xd xe d.length dc e.length ec).trans (by rw [hf])
        have gb : wn.cell? ⟨w1.heap.size, off (c.toNat : Int), none⟩ = some (.int .i64 (Fm.getN ⟨bk, ba, bb, bn, bo, bp, bt, bm, br, bd, be⟩ c)) := by
          rw [cB]; exact off_get ⟨bk, ba, bb, bn, bo, bp, bt, bm, br, bd, be⟩ c yd ye bd.length ydc be.length yec
        have gs := Lib.hid (off_set ⟨bk, ba, bb, bn, bo, bp, bt, bm, br, bd, be⟩ c f HB.out)
        have hcp : Fm.copyP ⟨k, a, b, n, o, p, t, mm, r, d, e⟩ ⟨bk, ba, bb, bn, bo, bp, bt, bm, br, bd, be⟩ c = Fm.setN ⟨bk, ba, bb, bn, bo, bp, bt, bm, br, bd, be⟩ c f := by unfold Fm.copyP; rw [if_neg h120, if_neg h107, hf]
        have hcd := copyP_d ⟨k, a, b, n, o, p, t, mm, r, d, e⟩ ⟨bk, ba, bb, bn, bo, bp, bt, bm, br, bd, be⟩ h120 h107
        have hpt0 : Fm.partT ⟨k, a, b, n, o, p, t, mm, r, d, e⟩ c = if f < -999999999 ∨ 999999999 < f then none else some (Lib.itoa f) := by
          unfold Fm.partT
          rw [if_neg h120, if_neg h107, hf]
          rfl
        rw [hcp] at HST hcd
        obtain ⟨bb2, hbb2⟩ : ∃ bb2, Fm.setN ⟨bk, ba, bb, bn, bo, bp, bt, bm, br, bd, be⟩ c f = bb2 := ⟨_, rfl⟩
        rw [hbb2] at hcd gs HST
        obtain ⟨zk, za, zb, zn, zo, zp, zt, zm, zr, zd, ze⟩ := bb2
        obtain ⟨rfl, rfl⟩ : zd = bd ∧ ze = be := hcd
        obtain ⟨ci, hci⟩ : ∃ ci : Int, (c.toNat : Int) = ci := ⟨_, rfl⟩
        rw [hci] at t1 t2 nx ga gb gs
        obtain ⟨oi, hoi⟩ : ∃ oi, off ci = oi := ⟨_, rfl⟩
        have CPL := Lib.hid place_any
        have CI := Lib.hid itoa_any
        rw [hoi] at ga gb gs
        have foA : wn.frozen? ⟨w.heap.size, oi, none⟩ = false := fA _
        have foB : wn.frozen? ⟨w1.heap.size, oi, none⟩ = false := fB _
        clear hcm hf hcp hbb2 hci cA fA cB fB
        go_wp2_with fail
        refine (CPL.out _ _ _).mono ?_
        rintro e' w3 ⟨rfl, rfl⟩
        rw [hoi]
        go_wp2_with fail
        refine (CPL.out _ _ _).mono ?_
        rintro e' w3 ⟨rfl, rfl⟩
        rw [hoi]
        have hwq : Below w.heap.size w (set1 wn w1.heap.size oi (.int .i64 f)) := set1_below hw' (by omega) _ _
        have HAq := Lib.hid ((set1_other wn hneAB oi (.int .i64 f)).trans HA.out)
        have HBq : Hid ((set1 wn w1.heap.size oi (.int .i64 f)).heap[w1.heap.size]? = _) := gs
        have HIq := Lib.hid ((set1_other wn (show w1.heap.size + 1 ≠ w1.heap.size by omega) oi (.int .i64 f)).trans HI.out)
        have hzq : (set1 wn w1.heap.size oi (.int .i64 f)).heap.size = wn.heap.size := set1_size _ _ _ _
        by_cases hr : f < -999999999 ∨ 999999999 < f
        · rw [if_pos hr] at hpt0
          have HL := Lib.hid (line_none (m := ⟨k, a, b, n, o, p, t, mm, r, d, e⟩) HWD.out HQ.out (HST.out.2 hpt0))
          clear hpt0
          have fin : str (Fm.line ⟨k, a, b, n, o, p, t, mm, r, d, e⟩) = ByteArray.empty := by rw [HL.out]; rfl
          have FIN := Lib.hid fin
          clear fin
          rcases hr with hr | hr
          · go_wp2_with fail
            go_ret
            exact ⟨by rw [FIN.out]; rfl, hwq⟩
          · have hr' : ¬ f < -999999999 := by omega
            go_wp2_with fail
            go_ret
            exact ⟨by rw [FIN.out]; rfl, hwq⟩
        · have hr1 : -999999999 ≤ f := by omega
          have hr2 : f ≤ 999999999 := by omega
          rw [if_neg hr] at hpt0
          have HG2 := Lib.hid (HST.out.1 _ hpt0)
          have hil := Fm.partT_len hpt0 ld le
          have hsz1 : (str tx).size = tx.length := str_size tx
          have hsz2 : (str (Lib.itoa f)).size = (Lib.itoa f).length := str_size _
          have CP := Lib.hid (CI.out f (set1 wn w1.heap.size oi (.int .i64 f)) (HE.out.below hwq) hr1 hr2)
          clear hpt0 hr HST
          go_wp2_with fail
          refine CP.out.mono ?_
          rintro e' w3 ⟨rfl, hb3⟩
          have hs3 := hb3.size
          have hw3 : Below w.heap.size w w3 := hwq.trans (hb3.mono (by omega))
          have HA3 := Lib.hid ((hb3.block _ (by omega)).trans HAq.out)
          have HB3 := Lib.hid ((hb3.block _ (by omega)).trans HBq.out)
          have HI3 := Lib.hid ((hb3.block _ (by omega)).trans HIq.out)
          clear hb3
          go_wp2_with fail
          go_roundw
          case rel =>
            refine ⟨j + 1, tx ++ 32 :: Lib.itoa f, zk, za, zb, zn, zo, zp, zt, zm, zr, yd, ye, ydc, yec, _, _, by omega, ?_, HG2.out, ?_, HA3.out, HB3.out, HI3.out, hyd, hye, hld, hle, hw3, by omega⟩
            · exact congrArg Value.string (cat3' _ _)
            · rw [List.length_append, List.length_cons]; omega
          case measure =>
            have h3 := HI3.out
            have : w3.iterPos (w1.heap.size + 1) = j + 1 := by simp [World.iterPos, h3]
            rw [this, HPOS0.out]; omega
      · obtain rfl : j = q.length := by omega
        have nx : ∀ ty : TypeId, (Instr.next (.pointer (some ⟨w1.heap.size + 1, 0, none⟩)) true ty).run Tryd.prog wr = .ok (.tuple #[.bool false]) wr := fun ty => Lib.run_next_end_at (P := Tryd.prog) wr (w1.heap.size + 1) (str q) q.length ty hit (by rw [hszq]; omega)
        rw [List.take_length] at HG
        have hL := line_some' (m := ⟨k, a, b, n, o, p, t, mm, r, d, e⟩) HWD.out H0.out HQ.out HG.out
        have HL := Lib.hid hL
        clear hL hit
        have cA := blk_cell HA.out
        have fA := blk_frozen HA.out
        have cB := blk_cell HB.out
        have fB := blk_frozen HB.out
        have CSM := Lib.hid sameF_any
        go_wp2_with fail
        refine (CSM.out _ _ _ _ _ _ _ _ _ _ _ _ _ d e _ _ _ _ _ _ _ _ _ _ _ _ _ bd be _ (Rd.below hd hw hw.size) (Rd.below hyd hw hw.size) (Rd.below he hw hw.size) (Rd.below hye hw hw.size) ld hld le hle).mono ?_
        rintro e' w3 ⟨rfl, hb3⟩
        have hw3 : Below w.heap.size w w3 := hw.trans (hb3.mono (by omega))
        cases hsm : Fm.same ⟨k, a, b, n, o, p, t, mm, r, d, e⟩ ⟨bk, ba, bb, bn, bo, bp, bt, bm, br, bd, be⟩ with
        | true =>
          rw [hsm, if_pos rfl] at HL
          have FIN := Lib.hid (show str (Fm.line ⟨k, a, b, n, o, p, t, mm, r, d, e⟩) = str tx from by rw [HL.out])
          clear hsm
          go_wp2_with fail
          go_ret
          exact ⟨by rw [FIN.out]; rfl, hw3⟩
        | false =>
          rw [hsm, if_neg (by simp)] at HL
          have FIN := Lib.hid (show str (Fm.line ⟨k, a, b, n, o, p, t, mm, r, d, e⟩) = ByteArray.empty from by rw [HL.out]; rfl)
          clear hsm
          go_wp2_with fail
          go_ret
          exact ⟨by rw [FIN.out]; rfl, hw3⟩
end Go.Proofs.YtjcbfbdbgplakaaDoor
