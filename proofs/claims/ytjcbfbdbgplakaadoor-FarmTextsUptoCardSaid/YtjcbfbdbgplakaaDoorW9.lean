import Derived.Deep.RegionWith
import Derived.Test.YtjcbfbdbgplakaaDoorW6
import Derived.Test.YtjcbfbdbgplakaaDoorW8
namespace Go.Proofs.YtjcbfbdbgplakaaDoor
open Go.RowKit
open Fm (Bs Mv)

/-- What a part's reading hands back. -/
def PartPost (m : Mv) (c : UInt8) (x : Bs) (B : Nat) (w : World) (e : Ending) (w' : World) : Prop :=
  ∃ (m' : Mv) (yd ye : Option Addr) (nd ydc ne yec : Nat) (ok : Bool), e = .returned (.tuple #[.agg #[.int .i64 m'.k, .int .i64 m'.a, .int .i64 m'.b, .int .i64 m'.n, .int .i64 m'.o, .int .i64 m'.p, .int .i64 m'.t, .int .i64 m'.m, .int .i64 m'.r, .slice yd nd ydc, .slice ye ne yec], .bool ok]) ∧ Below w.heap.size w w' ∧ (ok = false → Fm.partR m c x = none) ∧ (ok = true → Fm.partR m c x = some m' ∧ nd = m'.d.length ∧ ne = m'.e.length ∧ Bytes w' w'.heap.size yd m'.d ∧ Bools w' w'.heap.size ye m'.e ∧ Fr B yd ∧ Fr B ye ∧ m'.d.length ≤ 1048576 ∧ m'.e.length ≤ 1048576)
theorem Fr.mono {B B' : Nat} {A : Option Addr} (h : Fr B A) (hb : B' ≤ B) : Fr B' A := fun ad e => Nat.le_trans hb (h ad e)
theorem hex_le {s b : Bs} (h : Fm.hex s = some b) : b.length ≤ s.length := by
  have := (Fm.hex_some h).1
  rw [this, Fm.hexed_len]; omega
theorem keep_le {s : Bs} {l : List Bool} (h : Fm.keep s = some l) : l.length ≤ s.length := by
  have := Fm.keep_some h
  rw [this]
  unfold Fm.kept
  split
  · rename_i h; rw [h]; simp
  · simp
theorem partPost_num {m : Mv} {c : UInt8} {x : Bs} {B : Nat} {w : World} {yd ye : Option Addr} {ydc yec : Nat} {f : Int → Mv} {a : Array Value} (h1 : c ≠ 120) (h2 : c ≠ 107) (hs : ∀ v, Fm.setN m c v = f v) (hfd : ∀ v, (f v).d = m.d) (hfe : ∀ v, (f v).e = m.e) (hd : Bytes w w.heap.size yd m.d) (he : Bools w w.heap.size ye m.e) (fd : Fr B yd) (fe : Fr B ye) (ld : m.d.length ≤ 1048576) (le : m.e.length ≤ 1048576)
    (h : Calls Tryd.prog 25 a w fun e w' => e = .returned (.tuple #[.agg #[.int .i64 (f ((Fm.number x).getD 0)).k, .int .i64 (f ((Fm.number x).getD 0)).a, .int .i64 (f ((Fm.number x).getD 0)).b, .int .i64 (f ((Fm.number x).getD 0)).n, .int .i64 (f ((Fm.number x).getD 0)).o, .int .i64 (f ((Fm.number x).getD 0)).p, .int .i64 (f ((Fm.number x).getD 0)).t, .int .i64 (f ((Fm.number x).getD 0)).m, .int .i64 (f ((Fm.number x).getD 0)).r, .slice yd m.d.length ydc, .slice ye m.e.length yec], .bool (Fm.number x).isSome]) ∧ Below w.heap.size w w') : Calls Tryd.prog 25 a w (PartPost m c x B w) := by
  refine h.mono ?_
  rintro e w' ⟨rfl, hb⟩
  refine ⟨f ((Fm.number x).getD 0), yd, ye, m.d.length, ydc, m.e.length, yec, (Fm.number x).isSome, rfl, hb, fun hn => ?_, fun hn => ?_⟩
  · unfold Fm.partR
    rw [if_neg h1, if_neg h2]
    cases hx : Fm.number x with
    | none => rfl
    | some v => rw [hx] at hn; cases hn
  · cases hx : Fm.number x with
    | none => rw [hx] at hn; cases hn
    | some v =>
      simp only [Option.getD_some]
      refine ⟨?_, by rw [hfd], by rw [hfe], ?_, ?_, fd, fe, by rw [hfd]; exact ld, by rw [hfe]; exact le⟩
      · unfold Fm.partR
        rw [if_neg h1, if_neg h2, hx, Option.map_some, hs]
      · rw [hfd]; exact hd.below hb hb.size
      · rw [hfe]; exact he.below hb hb.size
theorem partAny (bk ba bb bn bo bp bt bm br : Int) (yd ye : Option Addr) (ydc yec : Nat) (bd : Bs) (be : List Bool) (c : UInt8) (hc : c ∈ ([120, 107, 112, 97, 110, 114, 65, 66, 78] : Bs)) (x : Bs) (hx : x.length ≤ 1048576) (B : Nat) (w : World) (hB : B ≤ w.heap.size) (hd : Bytes w w.heap.size yd bd) (he : Bools w w.heap.size ye be) (fd : Fr B yd) (fe : Fr B ye) (ld : bd.length ≤ 1048576) (le : be.length ≤ 1048576) :
    Calls Tryd.prog 25 #[.agg #[.int .i64 bk, .int .i64 ba, .int .i64 bb, .int .i64 bn, .int .i64 bo, .int .i64 bp, .int .i64 bt, .int .i64 bm, .int .i64 br, .slice yd bd.length ydc, .slice ye be.length yec], .int .u8 (c.toNat : Int), .string (str x)] w (PartPost ⟨bk, ba, bb, bn, bo, bp, bt, bm, br, bd, be⟩ c x B w) := by
  simp only [List.mem_cons, List.not_mem_nil, or_false] at hc
  rcases hc with rfl | rfl | rfl | rfl | rfl | rfl | rfl | rfl | rfl
  · refine (part120_any bk ba bb bn bo bp bt bm br yd ye bd.length ydc be.length yec x w hx).mono ?_
    rintro e w' (⟨hn, rfl, hb⟩ | ⟨b2, A2, c2, hn, rfl, hb2, hf2, hb⟩)
    · exact ⟨⟨bk, ba, bb, bn, bo, bp, bt, bm, br, bd, be⟩, none, ye, 0, 0, be.length, yec, false, rfl, hb, fun _ => by unfold Fm.partR; rw [if_pos rfl, hn]; rfl, fun h => by cases h⟩
    · exact ⟨⟨bk, ba, bb, bn, bo, bp, bt, bm, br, b2, be⟩, A2, ye, b2.length, c2, be.length, yec, true, rfl, hb, (fun h => by cases h), fun _ => ⟨by unfold Fm.partR; rw [if_pos rfl, hn]; rfl, rfl, rfl, hb2, he.below hb hb.size, hf2.mono hB, fe, Nat.le_trans (hex_le hn) hx, le⟩⟩
  · refine (part107_any bk ba bb bn bo bp bt bm br yd ye bd.length ydc be.length yec x w hx).mono ?_
    rintro e w' (⟨hn, rfl, hb⟩ | ⟨b2, A2, c2, hn, rfl, hb2, hf2, hb⟩)
    · exact ⟨⟨bk, ba, bb, bn, bo, bp, bt, bm, br, bd, be⟩, yd, none, bd.length, ydc, 0, 0, false, rfl, hb, fun _ => by unfold Fm.partR; rw [if_neg (by decide), if_pos rfl, hn]; rfl, fun h => by cases h⟩
    · exact ⟨⟨bk, ba, bb, bn, bo, bp, bt, bm, br, bd, b2⟩, yd, A2, bd.length, ydc, b2.length, c2, true, rfl, hb, (fun h => by cases h), fun _ => ⟨by unfold Fm.partR; rw [if_neg (by decide), if_pos rfl, hn]; rfl, rfl, rfl, hd.below hb hb.size, hb2, fd, hf2.mono hB, ld, Nat.le_trans (keep_le hn) hx⟩⟩
  · exact partPost_num (m := ⟨bk, ba, bb, bn, bo, bp, bt, bm, br, bd, be⟩) (f := fun v => ⟨bk, ba, bb, bn, bo, v, bt, bm, br, bd, be⟩) (by decide) (by decide) (fun _ => rfl) (fun _ => rfl) (fun _ => rfl) hd he fd fe ld le (part112_any bk ba bb bn bo bp bt bm br yd ye bd.length ydc be.length yec x w)
  · exact partPost_num (m := ⟨bk, ba, bb, bn, bo, bp, bt, bm, br, bd, be⟩) (f := fun v => ⟨bk, ba, bb, bn, bo, bp, v, bm, br, bd, be⟩) (by decide) (by decide) (fun _ => rfl) (fun _ => rfl) (fun _ => rfl) hd he fd fe ld le (part97_any bk ba bb bn bo bp bt bm br yd ye bd.length ydc be.length yec x w)
  · exact partPost_num (m := ⟨bk, ba, bb, bn, bo, bp, bt, bm, br, bd, be⟩) (f := fun v => ⟨bk, ba, bb, bn, bo, bp, bt, v, br, bd, be⟩) (by decide) (by decide) (fun _ => rfl) (fun _ => rfl) (fun _ => rfl) hd he fd fe ld le (part110_any bk ba bb bn bo bp bt bm br yd ye bd.length ydc be.length yec x w)
  · exact partPost_num (m := ⟨bk, ba, bb, bn, bo, bp, bt, bm, br, bd, be⟩) (f := fun v => ⟨bk, ba, bb, bn, bo, bp, bt, bm, v, bd, be⟩) (by decide) (by decide) (fun _ => rfl) (fun _ => rfl) (fun _ => rfl) hd he fd fe ld le (part114_any bk ba bb bn bo bp bt bm br yd ye bd.length ydc be.length yec x w)
  · exact partPost_num (m := ⟨bk, ba, bb, bn, bo, bp, bt, bm, br, bd, be⟩) (f := fun v => ⟨bk, v, bb, bn, bo, bp, bt, bm, br, bd, be⟩) (by decide) (by decide) (fun _ => rfl) (fun _ => rfl) (fun _ => rfl) hd he fd fe ld le (part65_any bk ba bb bn bo bp bt bm br yd ye bd.length ydc be.length yec x w)
  · exact partPost_num (m := ⟨bk, ba, bb, bn, bo, bp, bt, bm, br, bd, be⟩) (f := fun v => ⟨bk, ba, v, bn, bo, bp, bt, bm, br, bd, be⟩) (by decide) (by decide) (fun _ => rfl) (fun _ => rfl) (fun _ => rfl) hd he fd fe ld le (part66_any bk ba bb bn bo bp bt bm br yd ye bd.length ydc be.length yec x w)
  · exact partPost_num (m := ⟨bk, ba, bb, bn, bo, bp, bt, bm, br, bd, be⟩) (f := fun v => ⟨bk, ba, bb, v, bo, bp, bt, bm, br, bd, be⟩) (by decide) (by decide) (fun _ => rfl) (fun _ => rfl) (fun _ => rfl) hd he fd fe ld le (part78_any bk ba bb bn bo bp bt bm br yd ye bd.length ydc be.length yec x w)

/-- What a line's reading hands back. -/
def MvPost (r : Option Mv) (w : World) (e : Ending) (w' : World) : Prop :=
  (r = none ∧ e = .returned (.tuple #[.agg #[.int .i64 0, .int .i64 0, .int .i64 0, .int .i64 0, .int .i64 0, .int .i64 0, .int .i64 0, .int .i64 0, .int .i64 0, .slice none 0 0, .slice none 0 0], .bool false]) ∧ Below w.heap.size w w') ∨
  ∃ (m : Mv) (yd ye : Option Addr) (ydc yec : Nat), r = some m ∧ e = .returned (.tuple #[.agg #[.int .i64 m.k, .int .i64 m.a, .int .i64 m.b, .int .i64 m.n, .int .i64 m.o, .int .i64 m.p, .int .i64 m.t, .int .i64 m.m, .int .i64 m.r, .slice yd m.d.length ydc, .slice ye m.e.length yec], .bool true]) ∧ Bytes w' w'.heap.size yd m.d ∧ Bools w' w'.heap.size ye m.e ∧ Fr w.heap.size yd ∧ Fr w.heap.size ye ∧ m.d.length ≤ 1048576 ∧ m.e.length ≤ 1048576 ∧ Below w.heap.size w w'
theorem set11_cell (w : World) {g : Nat} {p : Addr} (hp : g ≠ p.block) (v0 v1 v2 v3 v4 v5 v6 v7 v8 v9 v10 : Value) : (set11 w g v0 v1 v2 v3 v4 v5 v6 v7 v8 v9 v10).cell? p = w.cell? p := by
  have h : ∀ (W : World) (i : Nat) (u : Value), (W.setCell ⟨g, i, none⟩ u).cell? p = W.cell? p := fun W i u => set_far (a := ⟨g, i, none⟩) u hp
  simp only [set11, h]
theorem Fm.foldR_step (b : Mv) (q : Bs) (ps : List Bs) (j : Nat) (h1 : j < q.length) (h2 : j < ps.length) : Fm.foldR b (q.drop j) (ps.drop j) = (Fm.partR b q[j] ps[j]).bind (fun x => Fm.foldR x (q.drop (j + 1)) (ps.drop (j + 1))) := by
  rw [List.drop_eq_getElem_cons h1, List.drop_eq_getElem_cons h2]
  rfl
theorem Fm.split_le (c : UInt8) (s : Bs) : ∀ x ∈ Fm.splitOn c s, x.length ≤ s.length := by
  induction s with
  | nil => intro x hx; simp [Fm.splitOn] at hx; simp [hx]
  | cons a r ih =>
    intro x hx
    simp only [Fm.splitOn] at hx
    split at hx
    · rcases List.mem_cons.1 hx with rfl | hx
      · simp
      · have := ih x hx; simp; omega
    · split at hx
      · rcases List.mem_cons.1 hx with rfl | hx
        · simp
        · cases hx
      · rename_i hh t hsp
        rcases List.mem_cons.1 hx with rfl | hx
        · have := ih hh (by rw [hsp]; simp); simp; omega
        · have := ih x (by rw [hsp]; exact List.mem_cons_of_mem _ hx); simp; omega
theorem Fm.split_many (c : UInt8) (s : Bs) : (Fm.splitOn c s).length ≤ s.length + 1 := by
  induction s with
  | nil => simp [Fm.splitOn]
  | cons a r ih =>
    simp only [Fm.splitOn]
    split
    · simp; omega
    · split
      · simp
      · rename_i h; rw [h] at ih; simp at ih ⊢; omega
set_option maxRecDepth 100000 in
set_option maxHeartbeats 4000000 in
theorem lineR_any (s : Bs) (hs : s.length ≤ 1048575) (w : World) :
    Calls Tryd.prog 15 #[.string (str s)] w (MvPost (Fm.lineR s) w) := by
  have CW := Lib.hid words_any
  have CS := Lib.hid shapeR_any
  obtain ⟨r, hr⟩ : ∃ r, Fm.lineR s = r := ⟨_, rfl⟩
  rw [hr]
  have HRR := Lib.hid hr
  clear hr
  go_enter Tryd.func15, Tryd.ntmps15
  go_wp2_with fail
  refine (CW.out s _ (by omega)).mono ?_
  rintro e w1 ⟨WA, wc, rfl, hWR, hb1⟩
  have hw1 : Below w.heap.size w w1 := ((Below.refl _ _).alloc (Nat.le_refl _) _).trans (hb1.mono (by simp))
  have hs1 : w.heap.size + 1 ≤ w1.heap.size := by have := hb1.size; simpa using this
  have hR1 : w1.heap[w.heap.size]? = some (.cells #[.int .i64 0, .int .i64 0, .int .i64 0, .int .i64 0, .int .i64 0, .int .i64 0, .int .i64 0, .int .i64 0, .int .i64 0, .slice none 0 0, .slice none 0 0] 37 (0, 0)) := by rw [hb1.block _ (by simp)]; exact blk_new _ _
  clear hb1
  obtain ⟨wd, ps, hsp⟩ : ∃ wd ps, Fm.splitOn 32 s = wd :: ps := by
    cases h : Fm.splitOn 32 s with
    | nil => exact absurd h (Fm.splitOn_ne _ _)
    | cons a b => exact ⟨a, b, rfl⟩
  have hpl : ∀ x ∈ ps, x.length ≤ 1048576 := fun x hx => by
    have := Fm.split_le 32 s x (by rw [hsp]; exact List.mem_cons_of_mem _ hx)
    omega
  have hpm : ps.length ≤ s.length := by
    have := Fm.split_many 32 s
    rw [hsp, List.length_cons] at this
    omega
  have hlr : r = if (Fm.shape wd).1 = 0 ∨ ps.length ≠ (Fm.shape wd).2.2.length then none else Fm.foldR (Fm.zero (Fm.shape wd).1 (Fm.shape wd).2.1) (Fm.shape wd).2.2 ps := by
    rw [← HRR.out]
    unfold Fm.lineR
    rw [hsp]
  have HLR := Lib.hid hlr
  clear hlr
  rw [hsp] at hWR ⊢
  obtain ⟨ad, u, rfl, hadb, hu, hc⟩ := hWR.at_ (i := 0) (by simp)
  simp only [sts, List.map_cons, List.getElem?_cons_zero, Option.some.injEq] at hu
  subst hu
  have hc0 : w1.cell? ad = some (.string (str wd)) := by simpa [Addr.add] using hc
  have HPL := Lib.hid hpl
  have HWR := Lib.hid hWR
  have HR1 := Lib.hid hR1
  clear hsp hpl hWR hR1
  simp only [List.length_cons] at *
  go_wp2_with fail
  refine (CS.out _ _).mono ?_
  rintro e w2 ⟨rfl, hb2⟩
  have hw2 : Below w.heap.size w w2 := hw1.trans (hb2.mono (by omega))
  have hs2 := hb2.size
  have HR2 := Lib.hid ((hb2.block _ (by omega)).trans HR1.out)
  have HWR2 := Lib.hid (HWR.out.below hb2 (Nat.le_refl _))
  rw [str_data]
  obtain ⟨q, hq⟩ : ∃ q, (Fm.shape wd).2.2 = q := ⟨_, rfl⟩
  have hqm := Fm.shape_parts wd
  rw [hq] at hqm HLR ⊢
  obtain ⟨sk, hsk⟩ : ∃ sk, (Fm.shape wd).1 = sk := ⟨_, rfl⟩
  obtain ⟨so, hso⟩ : ∃ so, (Fm.shape wd).2.1 = so := ⟨_, rfl⟩
  rw [hsk, hso] at HLR ⊢
  have hqc := parts_code q hqm
  have hq4 := hqc.1
  have HQC := Lib.hid hqc.2
  have hszq : (str q).size = q.length := str_size q
  clear hqm hqc hq hsk hso hb2 HWR HR1 hc hc0
  by_cases h0 : sk = 0
  · have d1 : decide (sk ≠ 0) = false := by simp [h0]
    rw [if_pos (Or.inl h0)] at HLR
    rw [d1]
    clear d1 h0
    have cR := blk_cell HR2.out
    have fR := blk_frozen HR2.out
    go_wp2_with fail
    exact bodyPost_ret (v := .tuple #[.agg #[.int .i64 0, .int .i64 0, .int .i64 0, .int .i64 0, .int .i64 0, .int .i64 0, .int .i64 0, .int .i64 0, .int .i64 0, .slice none 0 0, .slice none 0 0], .bool false]) (by simp [results, Tryd.results15, go_sem, cR]) rfl (Or.inl ⟨HLR.out, rfl, set11_below hw2 (Nat.le_refl _) _ _ _ _ _ _ _ _ _ _ _⟩)
  · have d1 : decide (sk ≠ 0) = true := by simp [h0]
    rw [d1]
    clear d1
    by_cases hl : ps.length = q.length
    rotate_left
    · rw [if_pos (Or.inr hl)] at HLR
      have t1 : ((ps.length : Int) + 1 == 1 + (q.length : Int)) = false := by simp only [beq_eq_false_iff_ne, ne_eq]; omega
      have t2 : ((ps.length : Int) + 1 != 1 + (q.length : Int)) = true := by simp only [bne, t1, Bool.not_false]
      clear hl h0
      have cR := blk_cell HR2.out
      have fR := blk_frozen HR2.out
      go_wp2_with fail
      exact bodyPost_ret (v := .tuple #[.agg #[.int .i64 0, .int .i64 0, .int .i64 0, .int .i64 0, .int .i64 0, .int .i64 0, .int .i64 0, .int .i64 0, .int .i64 0, .slice none 0 0, .slice none 0 0], .bool false]) (by simp [results, Tryd.results15, go_sem, cR]) rfl (Or.inl ⟨HLR.out, rfl, set11_below hw2 (Nat.le_refl _) _ _ _ _ _ _ _ _ _ _ _⟩)
    · rw [if_neg (by simp [h0, hl])] at HLR
      have t1 : ((ps.length : Int) + 1 == 1 + (q.length : Int)) = true := by simp only [beq_iff_eq]; omega
      have t2 : ((ps.length : Int) + 1 != 1 + (q.length : Int)) = false := by simp only [bne, t1, Bool.not_true]
      have HL := Lib.hid hl
      clear hl h0
      have HA3 := Lib.hid (blk_new w2 (.cells #[.int .i64 sk, .int .i64 0, .int .i64 0, .int .i64 0, .int .i64 so, .int .i64 0, .int .i64 0, .int .i64 0, .int .i64 0, .slice none 0 0, .slice none 0 0] 37))
      have HR3 := Lib.hid ((blk_old (.cells #[.int .i64 sk, .int .i64 0, .int .i64 0, .int .i64 0, .int .i64 so, .int .i64 0, .int .i64 0, .int .i64 0, .int .i64 0, .slice none 0 0, .slice none 0 0] 37) (show w.heap.size < w2.heap.size by omega)).trans HR2.out)
      have HW3 := Lib.hid (Below.refl w2.heap.size w2)
      go_wp2_with fail
      go_loopw [8, 10] (fun ok i wr => ∃ (j : Nat) (bk ba bb bn bo bp bt bm br : Int) (yd ye : Option Addr) (ydc yec : Nat) (bd : Bs) (be : List Bool), j ≤ q.length ∧ i = .int .i64 j ∧ r = Fm.foldR ⟨bk, ba, bb, bn, bo, bp, bt, bm, br, bd, be⟩ (q.drop j) (ps.drop j) ∧ 
        wr.heap[w2.heap.size]? = some (.cells #[.int .i64 bk, .int .i64 ba, .int .i64 bb, .int .i64 bn, .int .i64 bo, .int .i64 bp, .int .i64 bt, .int .i64 bm, .int .i64 br, .slice yd bd.length ydc, .slice ye be.length yec] 37 (0, 0)) ∧ Bytes wr wr.heap.size yd bd ∧ Bools wr wr.heap.size ye be ∧ Fr (w2.heap.size + 1) yd ∧ Fr (w2.heap.size + 1) ye ∧ bd.length ≤ 1048576 ∧ be.length ≤ 1048576 ∧ Below w2.heap.size w2 wr ∧ w2.heap.size < wr.heap.size)
        (fun _ i _ => q.length - (intOf i).toNat)
      case atStart => exact ⟨0, sk, 0, 0, 0, so, 0, 0, 0, 0, none, none, 0, 0, [], [], Nat.zero_le _, rfl, HLR.out, HA3.out, Rd.nil, Rd.nil, Fr.none_ _, Fr.none_ _, by simp, by simp, (Below.refl _ _).alloc (Nat.le_refl _) _, by simp⟩
      case round =>
        obtain ⟨j, bk, ba, bb, bn, bo, bp, bt, bm, br, yd, ye, ydc, yec, bd, be, hj, rfl, hg, hA, hyd, hye, fyd, fye, hld, hle, hw, hsz⟩ := hrel
        have HG := Lib.hid hg
        have HA := Lib.hid hA
        have hneRA : w.heap.size ≠ w2.heap.size := by omega
        have HRr := Lib.hid ((hw.block _ (by omega)).trans HR2.out)
        have cA := blk_cell HA.out
        have fA := blk_frozen HA.out
        clear hg hA
        by_cases hlt : j < q.length
        · obtain ⟨c, hcq⟩ : ∃ c, q[j] = c := ⟨_, rfl⟩
          have hcm := HQC.out c (by rw [← hcq]; exact List.getElem_mem hlt)
          have hlt' : j < ps.length := by rw [HL.out]; exact hlt
          obtain ⟨x, hx⟩ : ∃ x, ps[j] = x := ⟨_, rfl⟩
          have hxl := HPL.out x (by rw [← hx]; exact List.getElem_mem hlt')
          have hst := Fm.foldR_step ⟨bk, ba, bb, bn, bo, bp, bt, bm, br, bd, be⟩ q ps j hlt hlt'
          rw [hcq, hx] at hst
          have HST := Lib.hid (HG.out.trans hst)
          have ix : ∀ W : World, (Instr.index 9 (.string (str q)) (.int .i64 (j : Int))).run Tryd.prog W = .ok (.int .u8 (c.toNat : Int)) W := fun W => by rw [← hcq]; exact str_idx q .i64 j hlt W
          obtain ⟨ad', u, had, _, hu, hcc⟩ := ((HWR2.out.up hs2).below hw (Nat.le_refl _)).at_ (i := j + 1) (by omega)
          obtain rfl : ad = ad' := by simpa using had
          simp only [sts, List.map_cons, List.getElem?_cons_succ, List.getElem?_map, List.getElem?_eq_getElem hlt', hx, Option.map_some, Option.some.injEq] at hu
          subst hu
          have PA := partAny bk ba bb bn bo bp bt bm br yd ye ydc yec bd be c hcm x hxl (w2.heap.size + 1)
          have HPA := Lib.hid PA
          obtain ⟨ci, hci⟩ : ∃ ci : Int, (c.toNat : Int) = ci := ⟨_, rfl⟩
          rw [hci] at HPA ix
          have hsum : IntKind.i64.wrap ((j : Int) + 1) = (j : Int) + 1 := IntWalk.i64_in _ (by omega)
          have hcc' := hcc
          rw [show ad.add (j + 1) = ⟨ad.block, ad.off + (j + 1), none⟩ from rfl] at hcc'
          have hb0 : (0 : Int) ≤ (j : Int) + 1 := by omega
          have hb1 : (j : Int) + 1 < (ps.length : Int) + 1 := by omega
          have hb2 : (j : Int) < (ps.length : Int) := by omega
          have hb3 : ((j : Int) + 1).toNat = j + 1 := by omega
          clear hst hcq hx hcm hci had PA
          go_wp2_with fail
          have hbd : Below wr.heap.size wr wr.drew := (Below.refl _ wr).drew
          have CP := Lib.hid (HPA.out wr.drew (by simp; omega) (hyd.below hbd hbd.size) (hye.below hbd hbd.size) fyd fye hld hle)
          go_region_with (refine CP.out.mono ?_; rintro e w3 ⟨m', yd', ye', nd', ydc', ne', yec', ok, rfl, hb3', h1, h2⟩; have hb3 : Below wr.heap.size wr w3 := hbd.trans hb3'; have H1 := Lib.hid h1; have H2 := Lib.hid h2; clear h1 h2; have hs3 := hb3.size; have hw3 := hw.trans (hb3.mono (by omega)); have HA3 := Lib.hid ((hb3.block _ (by omega)).trans HA.out); have HR3 := Lib.hid ((hb3.block _ (by omega)).trans HRr.out); have cA3 := blk_cell HA3.out; have fA3 := blk_frozen HA3.out; clear hb3 hb3'; obtain ⟨k', a', b', n', o', p', t', mm', r', d', e'⟩ := m')
          all_goals
            have cR3 := blk_cell HR3.out
            have fR3 := blk_frozen HR3.out
            cases ok with
            | false =>
              have HN := Lib.hid (HST.out.trans (by rw [H1.out rfl]; first | done | rfl))
              go_wp2_with fail
              exact bodyPost_ret (v := .tuple #[.agg #[.int .i64 0, .int .i64 0, .int .i64 0, .int .i64 0, .int .i64 0, .int .i64 0, .int .i64 0, .int .i64 0, .int .i64 0, .slice none 0 0, .slice none 0 0], .bool false]) (by simp [results, Tryd.results15, go_sem, cR3]) rfl (Or.inl ⟨HN.out, rfl, set11_below (set11_below (hw2.trans (hw3.mono (by omega))) (by omega) _ _ _ _ _ _ _ _ _ _ _) (Nat.le_refl _) _ _ _ _ _ _ _ _ _ _ _⟩)
            | true =>
              have h2 := H2.out rfl
              have HN := Lib.hid (HST.out.trans (by rw [h2.1]; first | done | rfl))
              obtain rfl : nd' = d'.length := h2.2.1
              obtain rfl : ne' = e'.length := h2.2.2.1
              have H3 := Lib.hid h2.2.2.2
              clear h2
              go_wp2_with fail
              go_roundw
              case rel =>
                have h3 := H3.out
                refine ⟨j + 1, k', a', b', n', o', p', t', mm', r', yd', ye', ydc', yec', d', e', by omega, by go_num, HN.out, set11_blk HA3.out _ _ _ _ _ _ _ _ _ _ _, h3.1.fresh h3.2.2.1 (fun p h _ => set11_cell w3 (by omega) _ _ _ _ _ _ _ _ _ _ _) (Nat.le_of_eq (set11_size w3 _ _ _ _ _ _ _ _ _ _ _ _).symm), h3.2.1.fresh h3.2.2.2.1 (fun p h _ => set11_cell w3 (by omega) _ _ _ _ _ _ _ _ _ _ _) (Nat.le_of_eq (set11_size w3 _ _ _ _ _ _ _ _ _ _ _ _).symm), h3.2.2.1, h3.2.2.2.1, h3.2.2.2.2.1, h3.2.2.2.2.2, set11_below hw3 (Nat.le_refl _) _ _ _ _ _ _ _ _ _ _ _, ?_⟩
                refine Nat.lt_of_lt_of_eq ?_ (set11_size w3 _ _ _ _ _ _ _ _ _ _ _ _).symm; omega
              case measure => simp [intOf]; omega
        · obtain rfl : j = q.length := by omega
          rw [List.drop_length] at HG
          have cR3 := blk_cell HRr.out
          have fR3 := blk_frozen HRr.out
          go_wp2_with fail
          exact bodyPost_ret (v := .tuple #[.agg #[.int .i64 bk, .int .i64 ba, .int .i64 bb, .int .i64 bn, .int .i64 bo, .int .i64 bp, .int .i64 bt, .int .i64 bm, .int .i64 br, .slice yd bd.length ydc, .slice ye be.length yec], .bool true]) (by simp [results, Tryd.results15, go_sem, cR3]) rfl (Or.inr ⟨⟨bk, ba, bb, bn, bo, bp, bt, bm, br, bd, be⟩, yd, ye, ydc, yec, HG.out, rfl, hyd.fresh (B := w2.heap.size + 1) fyd (fun p h _ => set11_cell wr (by omega) _ _ _ _ _ _ _ _ _ _ _) (Nat.le_of_eq (set11_size wr _ _ _ _ _ _ _ _ _ _ _ _).symm), hye.fresh (B := w2.heap.size + 1) fye (fun p h _ => set11_cell wr (by omega) _ _ _ _ _ _ _ _ _ _ _) (Nat.le_of_eq (set11_size wr _ _ _ _ _ _ _ _ _ _ _ _).symm), fyd.mono (by omega), fye.mono (by omega), hld, hle, set11_below (hw2.trans (hw.mono (by omega))) (Nat.le_refl _) _ _ _ _ _ _ _ _ _ _ _⟩)
end Go.Proofs.YtjcbfbdbgplakaaDoor
