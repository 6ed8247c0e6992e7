import Derived.Lib.SplitLaws
import Derived.Lib.Replace
import Derived.Deep.RegionWith
import Derived.Test.YtjcbfbdbgplakaaDoorW9
import Derived.Test.YtjcbfbdbgplakaaDoorW10
namespace Go.Proofs.YtjcbfbdbgplakaaDoor
open Go.RowKit
open Fm (Bs Mv)
theorem splitK_one (c : UInt8) : ∀ s : Bs, Lib.splitK [c] 0 (Lib.count s [c]) s = Fm.splitOn c s
  | [] => by rw [Lib.count_miss (by simp [Lib.index])]; rfl
  | b :: l => by
    have ih := splitK_one c l
    by_cases h : b = c
    · subst h
      have hix : Lib.index (b :: l) [b] = ((0 : Nat) : Int) := by rw [Lib.index]; simp [List.isPrefixOf]
      rw [Lib.count_cons_eq, Nat.add_comm, Lib.splitK, hix]
      simp only [Fm.splitOn, if_true]
      rw [← ih]
      simp
    · have hp : ([c] : List UInt8).isPrefixOf (b :: l) = false := by simp [List.isPrefixOf, Ne.symm h]
      have hix : Lib.index (b :: l) [c] = if Lib.index l [c] == -1 then -1 else Lib.index l [c] + 1 := by rw [Lib.index, hp]; simp
      rw [Lib.count_cons_ne b c l h]
      simp only [Fm.splitOn, if_neg h]
      rw [← ih]
      cases hk : Lib.count l [c] with
      | zero => simp only [Lib.splitK]
      | succ k =>
        obtain ⟨j, hj⟩ := Lib.index_of_count (s := l) (old := [c]) (by omega)
        have hm : ¬ ((j : Int) == -1) = true := fun e => by have := beq_iff_eq.1 e; omega
        have hm' : ¬ ((j : Int) + 1 == -1) = true := fun e => by have := beq_iff_eq.1 e; omega
        rw [hj, if_neg hm] at hix
        have e1 : ((j : Int) + 1).toNat = j + 1 := by omega
        simp only [Lib.splitK, hix, hj, if_neg hm, if_neg hm', e1, Int.toNat_natCast]
        simp
theorem splitF_any (c : UInt8) (s : Bs) (w : World) (hE : Env w) (hl : s.length ≤ 1048576) :
    Calls Tryd.prog 27 #[.string (str s), .string (str [c])] w (StrsPost (Fm.splitOn c s) w) := by
  refine (Tryd.strings_Split_shaped (str s) (str [c]) w hE.sh (by rw [str_size]; omega) (by rw [str_size]; simp)).mono ?_
  rintro e w' ⟨rfl, rfl⟩
  have hd := Lib.splitB_data (str [c]) 0 (Lib.countB (str s) (str [c])) (str s)
  have hc : Lib.countB (str s) (str [c]) = Lib.count s [c] := by unfold Lib.countB; rw [str_data, str_data]
  rw [str_data, str_data, hc, splitK_one] at hd
  have hl2 := Lib.splitB_all (str [c]) (by rw [str_size]; simp) 0 _ (str s) rfl
  have hcells : (Lib.splitB (str [c]) 0 (Lib.countB (str s) (str [c])) (str s)).map Value.string = sts (Fm.splitOn c s) := by
    rw [← hd]
    unfold sts
    rw [hc, List.map_map]
    apply List.map_congr_left
    intro x _
    show Value.string x = Value.string (str x.data.toList)
    rw [str_of]
  have hlen : Lib.countB (str s) (str [c]) + 1 = (Fm.splitOn c s).length := by
    rw [← hl2, ← hd, List.length_map, hc]
  rw [hlen, hcells]
  refine ⟨_, _, rfl, ⟨by simp [sts], fun _ => ⟨_, rfl, by simp, fun j u hj => ?_⟩⟩, (Below.refl _ _).alloc (Nat.le_refl _) _⟩
  have : (Addr.add ⟨w.heap.size, 0, none⟩ j) = ⟨w.heap.size, j, none⟩ := by unfold Addr.add; split <;> simp_all
  rw [this, blk_cell (blk_new w (.cells (sts (Fm.splitOn c s)).toArray 9))]
  simpa using hj

/-- What the program's reading hands back. -/
def RdPost (r : Option Mv) (w : World) (e : Ending) (w' : World) : Prop :=
  ∃ (m : Mv) (yd ye : Option Addr) (nd ydc ne yec : Nat) (ok : Bool), e = .returned (.tuple #[.agg #[.int .i64 m.k, .int .i64 m.a, .int .i64 m.b, .int .i64 m.n, .int .i64 m.o, .int .i64 m.p, .int .i64 m.t, .int .i64 m.m, .int .i64 m.r, .slice yd nd ydc, .slice ye ne yec], .bool ok]) ∧ Below w.heap.size w w' ∧ (ok = false → r = none) ∧ (ok = true → r = some m ∧ nd = m.d.length ∧ ne = m.e.length ∧ Bytes w' w'.heap.size yd m.d ∧ Bools w' w'.heap.size ye m.e ∧ Fr w.heap.size yd ∧ Fr w.heap.size ye ∧ m.d.length ≤ 1048576 ∧ m.e.length ≤ 1048576)
theorem RdPost.no {r : Option Mv} {w w' : World} (h : r = none) (hb : Below w.heap.size w w') : RdPost r w (.returned (.tuple #[.agg #[.int .i64 0, .int .i64 0, .int .i64 0, .int .i64 0, .int .i64 0, .int .i64 0, .int .i64 0, .int .i64 0, .int .i64 0, .slice none 0 0, .slice none 0 0], .bool false])) w' := ⟨Fm.zero 0 0, none, none, 0, 0, 0, 0, false, rfl, hb, fun _ => h, fun h => by cases h⟩
theorem Fm.foldF_step (b : Mv) (q : Bs) (ps : List Bs) (j : Nat) (h1 : j < q.length) (h2 : j < ps.length) : Fm.foldF b (q.drop j) (ps.drop j) = Fm.foldF (Fm.partF b q[j] ps[j]) (q.drop (j + 1)) (ps.drop (j + 1)) := by
  rw [List.drop_eq_getElem_cons h1, List.drop_eq_getElem_cons h2]
  rfl
theorem readHex_le : ∀ s : Bs, (Fm.readHex s).length ≤ s.length
  | [] => by simp [Fm.readHex]
  | [_] => by simp [Fm.readHex]
  | a :: b :: r => by have := readHex_le r; simp [Fm.readHex]; omega
theorem readKept_le (s : Bs) : (Fm.readKept s).length ≤ s.length := by
  unfold Fm.readKept
  split <;> simp
theorem iterAt_cell (w : World) (k : Nat) (s : ByteArray) (pos : Nat) (p : Addr) (h : p.block ≠ k) : (w.iterAt k s pos).cell? p = w.cell? p := by
  unfold World.cell?
  rw [Lib.iterAt_other w k p.block s pos h]
theorem set1_cell (w : World) {g i : Nat} {p : Addr} (hp : g ≠ p.block) (v : Value) : (set1 w g i v).cell? p = w.cell? p := set_far (a := ⟨g, i, none⟩) v hp
set_option maxRecDepth 100000 in
set_option maxHeartbeats 4000000 in
theorem readF_any (s : Bs) (hs : s.length ≤ 1048575) (w : World) (hE : Env w) :
    Calls Tryd.prog 14 #[.string (str s)] w (RdPost (Fm.readF s) w) := by
  have CW := Lib.hid splitF_any
  have CS := Lib.hid shapeF_any
  obtain ⟨r, hr⟩ : ∃ r, Fm.readF s = r := ⟨_, rfl⟩
  rw [hr]
  have HRR := Lib.hid hr
  clear hr
  go_enter Tryd.func14, Tryd.ntmps14
  go_wp2_with fail
  refine (CW.out 32 s _ (hE.below ((Below.refl _ _).alloc (Nat.le_refl _) _)) (by omega)).mono ?_
  rintro e w1 ⟨WA, wc, rfl, hWR, hb1⟩
  have hw1 : Below w.heap.size w w1 := ((Below.refl _ _).alloc (Nat.le_refl _) _).trans (hb1.mono (by simp))
  have hs1 : w.heap.size + 1 ≤ w1.heap.size := by have := hb1.size; simpa using this
  have hR1 : w1.heap[w.heap.size]? = some (.cells #[.int .i64 0, .int .i64 0, .int .i64 0, .int .i64 0, .int .i64 0, .int .i64 0, .int .i64 0, .int .i64 0, .int .i64 0, .slice none 0 0, .slice none 0 0] 39 (0, 0)) := by rw [hb1.block _ (by simp)]; exact blk_new _ _
  clear hb1
  obtain ⟨wd, ps, hsp⟩ : ∃ wd ps, Fm.splitOn 32 s = wd :: ps := by
    cases h : Fm.splitOn 32 s with
    | nil => exact absurd h (Fm.splitOn_ne _ _)
    | cons a b => exact ⟨a, b, rfl⟩
  have hpl : ∀ x ∈ ps, x.length ≤ 1048576 := fun x hx => by
    have := Fm.split_le 32 s x (by rw [hsp]; exact List.mem_cons_of_mem _ hx)
    omega
  have hpm : ps.length ≤ s.length := by
    have := Fm.split_many 32 s
    rw [hsp, List.length_cons] at this
    omega
  have hlr : r = (if (Fm.shape wd).1 = 0 ∨ ps.length ≠ (Fm.shape wd).2.2.length then none else some (Fm.foldF (Fm.zero (Fm.shape wd).1 (Fm.shape wd).2.1) (Fm.shape wd).2.2 ps)).bind (fun m => if Fm.line m = s then some m else none) := by
    rw [← HRR.out]
    unfold Fm.readF Fm.preF
    rw [hsp]
  have HLR := Lib.hid hlr
  clear hlr
  rw [hsp] at hWR ⊢
  obtain ⟨ad, u, rfl, hadb, hu, hc⟩ := hWR.at_ (i := 0) (by simp)
  simp only [sts, List.map_cons, List.getElem?_cons_zero, Option.some.injEq] at hu
  subst hu
  have hc0 : w1.cell? ad = some (.string (str wd)) := by simpa [Addr.add] using hc
  have HPL := Lib.hid hpl
  have HWR2 := Lib.hid hWR
  have HR2 := Lib.hid hR1
  clear hsp hpl hWR hR1
  simp only [List.length_cons] at *
  go_wp2_with fail
  refine (CS.out _ _).mono ?_
  rintro e w2 ⟨rfl, rfl⟩
  rw [str_data]
  obtain ⟨q, hq⟩ : ∃ q, (Fm.shape wd).2.2 = q := ⟨_, rfl⟩
  have hqm := Fm.shape_parts wd
  rw [hq] at hqm HLR ⊢
  obtain ⟨sk, hsk⟩ : ∃ sk, (Fm.shape wd).1 = sk := ⟨_, rfl⟩
  obtain ⟨so, hso⟩ : ∃ so, (Fm.shape wd).2.1 = so := ⟨_, rfl⟩
  rw [hsk, hso] at HLR ⊢
  have hqc := parts_code q hqm
  have hq4 := hqc.1
  have HQC := Lib.hid hqc.2
  have hszq : (str q).size = q.length := str_size q
  clear hqm hqc hq hsk hso hc hc0
  have HE := Lib.hid hE
  clear hE
  by_cases h0 : sk = 0
  · rw [if_pos (Or.inl h0)] at HLR
    have d1 : (sk == 0) = true := by simp [h0]
    clear h0
    have cR := blk_cell HR2.out
    have fR := blk_frozen HR2.out
    go_wp2_with fail
    exact bodyPost_ret (v := .tuple #[.agg #[.int .i64 0, .int .i64 0, .int .i64 0, .int .i64 0, .int .i64 0, .int .i64 0, .int .i64 0, .int .i64 0, .int .i64 0, .slice none 0 0, .slice none 0 0], .bool false]) (by simp [results, Tryd.results14, go_sem, cR]) rfl (RdPost.no HLR.out (set11_below hw1 (Nat.le_refl _) _ _ _ _ _ _ _ _ _ _ _))
  · have d1 : (sk == 0) = false := by simp [h0]
    by_cases hl : ps.length = q.length
    rotate_left
    · rw [if_pos (Or.inr hl)] at HLR
      have t1 : ((ps.length : Int) + 1 == 1 + (q.length : Int)) = false := by simp only [beq_eq_false_iff_ne, ne_eq]; omega
      have t2 : ((ps.length : Int) + 1 != 1 + (q.length : Int)) = true := by simp only [bne, t1, Bool.not_false]
      clear hl h0
      have cR := blk_cell HR2.out
      have fR := blk_frozen HR2.out
      go_wp2_with fail
      exact bodyPost_ret (v := .tuple #[.agg #[.int .i64 0, .int .i64 0, .int .i64 0, .int .i64 0, .int .i64 0, .int .i64 0, .int .i64 0, .int .i64 0, .int .i64 0, .slice none 0 0, .slice none 0 0], .bool false]) (by simp [results, Tryd.results14, go_sem, cR]) rfl (RdPost.no HLR.out (set11_below hw1 (Nat.le_refl _) _ _ _ _ _ _ _ _ _ _ _))
    · rw [if_neg (by simp [h0, hl]), Option.bind_some] at HLR
      obtain ⟨mf, hmf⟩ : ∃ mf, Fm.foldF (Fm.zero sk so) q ps = mf := ⟨_, rfl⟩
      rw [hmf] at HLR
      have HMF := Lib.hid hmf.symm
      have t1 : ((ps.length : Int) + 1 == 1 + (q.length : Int)) = true := by simp only [beq_iff_eq]; omega
      have t2 : ((ps.length : Int) + 1 != 1 + (q.length : Int)) = false := by simp only [bne, t1, Bool.not_true]
      have HL := Lib.hid hl
      clear hl h0 hmf
      have hltR : w.heap.size < w1.heap.size := by omega
      have HA3 := Lib.hid (show ((w1.alloc (.cells #[.int .i64 sk, .int .i64 0, .int .i64 0, .int .i64 0, .int .i64 so, .int .i64 0, .int .i64 0, .int .i64 0, .int .i64 0, .slice none 0 0, .slice none 0 0] 39)).iter (str q) 0).heap[w1.heap.size]? = some (.cells #[.int .i64 sk, .int .i64 0, .int .i64 0, .int .i64 0, .int .i64 so, .int .i64 0, .int .i64 0, .int .i64 0, .int .i64 0, .slice none 0 0, .slice none 0 0] 39 (0, 0)) from by unfold World.iter; rw [blk_old _ (by simp)]; exact blk_new _ _)
      have HA4 := Lib.hid (show ((w1.alloc (.cells #[.int .i64 sk, .int .i64 0, .int .i64 0, .int .i64 0, .int .i64 so, .int .i64 0, .int .i64 0, .int .i64 0, .int .i64 0, .slice none 0 0, .slice none 0 0] 39)).iter (str q) 0).heap[w1.heap.size + 1]? = some (.stringIter (str q) 0) from by have := World.iter_heap (w1.alloc (.cells #[.int .i64 sk, .int .i64 0, .int .i64 0, .int .i64 0, .int .i64 so, .int .i64 0, .int .i64 0, .int .i64 0, .int .i64 0, .slice none 0 0, .slice none 0 0] 39)) (str q) 0; simpa using this)
      have HWI := Lib.hid (show Below w1.heap.size w1 ((w1.alloc (.cells #[.int .i64 sk, .int .i64 0, .int .i64 0, .int .i64 0, .int .i64 so, .int .i64 0, .int .i64 0, .int .i64 0, .int .i64 0, .slice none 0 0, .slice none 0 0] 39)).iter (str q) 0) from by unfold World.iter; exact ((Below.refl _ _).alloc (Nat.le_refl _) _).alloc (by simp) _)
      have HWS := Lib.hid (show w1.heap.size + 1 < ((w1.alloc (.cells #[.int .i64 sk, .int .i64 0, .int .i64 0, .int .i64 0, .int .i64 so, .int .i64 0, .int .i64 0, .int .i64 0, .int .i64 0, .slice none 0 0, .slice none 0 0] 39)).iter (str q) 0).heap.size from by unfold World.iter; simp)
      go_wp2_with fail
      go_loopw [] (fun wr => ∃ (j : Nat) (bk ba bb bn bo bp bt bm br : Int) (yd ye : Option Addr) (ydc yec : Nat) (bd : Bs) (be : List Bool), j ≤ q.length ∧ mf = Fm.foldF ⟨bk, ba, bb, bn, bo, bp, bt, bm, br, bd, be⟩ (q.drop j) (ps.drop j) ∧ 
        wr.heap[w1.heap.size]? = some (.cells #[.int .i64 bk, .int .i64 ba, .int .i64 bb, .int .i64 bn, .int .i64 bo, .int .i64 bp, .int .i64 bt, .int .i64 bm, .int .i64 br, .slice yd bd.length ydc, .slice ye be.length yec] 39 (0, 0)) ∧ wr.heap[w1.heap.size + 1]? = some (.stringIter (str q) j) ∧ Bytes wr wr.heap.size yd bd ∧ Bools wr wr.heap.size ye be ∧ Fr (w1.heap.size + 2) yd ∧ Fr (w1.heap.size + 2) ye ∧ bd.length ≤ 1048576 ∧ be.length ≤ 1048576 ∧ Below w1.heap.size w1 wr ∧ w1.heap.size + 1 < wr.heap.size)
        (fun wr => q.length - wr.iterPos (w1.heap.size + 1))
      case atStart => exact ⟨0, sk, 0, 0, 0, so, 0, 0, 0, 0, none, none, 0, 0, [], [], Nat.zero_le _, HMF.out, HA3.out, HA4.out, Rd.nil, Rd.nil, Fr.none_ _, Fr.none_ _, by simp, by simp, HWI.out, HWS.out⟩
      case round =>
        obtain ⟨j, bk, ba, bb, bn, bo, bp, bt, bm, br, yd, ye, ydc, yec, bd, be, hj, hg, hA, hit, hyd, hye, fyd, fye, hld, hle, hw, hsz⟩ := hrel
        have HG := Lib.hid hg
        have HA := Lib.hid hA
        have hneRA : w.heap.size ≠ w1.heap.size := by omega
        clear hg hA
        by_cases hlt : j < q.length
        · obtain ⟨c, hcq⟩ : ∃ c, q[j] = c := ⟨_, rfl⟩
          have hcm := HQC.out c (by rw [← hcq]; exact List.getElem_mem hlt)
          have hlt' : j < ps.length := by rw [HL.out]; exact hlt
          obtain ⟨x, hx⟩ : ∃ x, ps[j] = x := ⟨_, rfl⟩
          have hxl := HPL.out x (by rw [← hx]; exact List.getElem_mem hlt')
          have hst := Fm.foldF_step ⟨bk, ba, bb, bn, bo, bp, bt, bm, br, bd, be⟩ q ps j hlt hlt'
          rw [hcq, hx] at hst
          have HST := Lib.hid (HG.out.trans hst)
          have hc128 : c.toNat < 128 := by
            simp only [List.mem_cons, List.not_mem_nil, or_false] at hcm
            rcases hcm with rfl | rfl | rfl | rfl | rfl | rfl | rfl | rfl | rfl <;> decide
          have hgc : ((str q)[j]'(by rw [hszq]; exact hlt)).toNat = c.toNat := by rw [← hcq]; exact congrArg UInt8.toNat (str_get q j hlt)
          have nx : ∀ ty : TypeId, (Instr.next (.pointer (some ⟨w1.heap.size + 1, 0, none⟩)) true ty).run Tryd.prog wr = .ok (.tuple #[.bool true, .int .i64 (j : Int), .int .i32 (c.toNat : Int)]) (wr.iterAt (w1.heap.size + 1) (str q) (j + 1)) := fun ty => by
            have := Lib.run_next_ascii_at (P := Tryd.prog) wr (w1.heap.size + 1) (str q) j ty hit (by rw [hszq]; exact hlt) (by rw [hgc]; exact hc128)
            rwa [hgc] at this
          have hA' := (iter_blk wr (w1.heap.size + 1) (str q) (j + 1) w1.heap.size (by omega)).trans HA.out
          have hI' := Lib.iterAt_heap wr (w1.heap.size + 1) (str q) j (j + 1) hit
          have hw' := Lib.below_iterAt hw (show w1.heap.size ≤ w1.heap.size + 1 by omega) (str q) (j + 1)
          have hsz' : w1.heap.size + 1 < (wr.iterAt (w1.heap.size + 1) (str q) (j + 1)).heap.size := by rw [Lib.iterAt_size]; exact hsz
          have hyd' := hyd.fresh (B := w1.heap.size + 2) fyd (fun p h _ => iterAt_cell wr (w1.heap.size + 1) (str q) (j + 1) p (by omega)) (Nat.le_of_eq (Lib.iterAt_size wr (w1.heap.size + 1) (str q) (j + 1)).symm)
          have hye' := hye.fresh (B := w1.heap.size + 2) fye (fun p h _ => iterAt_cell wr (w1.heap.size + 1) (str q) (j + 1) p (by omega)) (Nat.le_of_eq (Lib.iterAt_size wr (w1.heap.size + 1) (str q) (j + 1)).symm)
          obtain ⟨wn, hwn⟩ : ∃ wn, wr.iterAt (w1.heap.size + 1) (str q) (j + 1) = wn := ⟨_, rfl⟩
          rw [hwn] at nx hA' hI' hw' hsz' hyd' hye'
          have HA := Lib.hid hA'
          have HI := Lib.hid hI'
          have hltN : w1.heap.size < wn.heap.size := by omega
          have hWn : Below w.heap.size w wn := hw1.trans (hw'.mono (by omega))
          have cA := blk_cell hA'
          have fA := blk_frozen hA'
          have HPOS0 := Lib.hid (show wr.iterPos (w1.heap.size + 1) = j from by simp [World.iterPos, hit])
          obtain ⟨ad', u, had, _, hu, hcc⟩ := (HWR2.out.below hw' (Nat.le_refl _)).at_ (i := j + 1) (by omega)
          obtain rfl : ad = ad' := by simpa using had
          simp only [sts, List.map_cons, List.getElem?_cons_succ, List.getElem?_map, List.getElem?_eq_getElem hlt', hx, Option.map_some, Option.some.injEq] at hu
          subst hu
          have hcc' := hcc
          rw [show ad.add (j + 1) = ⟨ad.block, ad.off + (j + 1), none⟩ from rfl] at hcc'
          have hb0 : (0 : Int) ≤ (j : Int) + 1 := by omega
          have hb1 : (j : Int) + 1 < (ps.length : Int) + 1 := by omega
          have hb2 : (j : Int) < (ps.length : Int) := by omega
          have hb3 : ((j : Int) + 1).toNat = j + 1 := by omega
          have hsum : IntKind.i64.wrap ((j : Int) + 1) = (j : Int) + 1 := IntWalk.i64_in _ (by omega)
          clear hst hcq hx hA' hI' hgc hc128 hwn hit hw hsz had hyd hye
          by_cases h120 : c = 120
          · subst h120
            have nx' : ∀ ty : TypeId, (Instr.next (.pointer (some ⟨w1.heap.size + 1, 0, none⟩)) true ty).run Tryd.prog wr = .ok (.tuple #[.bool true, .int .i64 (j : Int), .int .i32 120]) wn := nx
            clear nx
            have e1 : ((120 : Int) == 120) = true := rfl
            have CX := Lib.hid readHex_any
            go_wp2_with fail
            refine (CX.out x _ hxl).mono ?_
            rintro e' w3 ⟨A3, c3, rfl, hB3, hF3, hb3⟩
            have hs3 := hb3.size
            have hw3 : Below w1.heap.size w1 w3 := hw'.trans (hb3.mono (by omega))
            have HA3 := Lib.hid ((hb3.block _ (by omega)).trans HA.out)
            have HI3 := Lib.hid ((hb3.block _ (by omega)).trans HI.out)
            have hye3 := hye'.below hb3 hb3.size
            clear cA fA hb3
            have cA := blk_cell HA3.out
            have fA := blk_frozen HA3.out
            go_wp2_with fail
            go_roundw
            case rel =>
              refine ⟨j + 1, bk, ba, bb, bn, bo, bp, bt, bm, br, A3, ye, c3, yec, Fm.readHex x, be, by omega, ?_, set1_blk9 HA3.out _, (set1_other w3 (by omega) _ _).trans HI3.out, hB3.fresh (B := w1.heap.size + 2) (hF3.mono (by omega)) (fun p h _ => set1_cell w3 (by omega) _) (Nat.le_of_eq (set1_size w3 _ _ _).symm), hye3.fresh (B := w1.heap.size + 2) fye (fun p h _ => set1_cell w3 (by omega) _) (Nat.le_of_eq (set1_size w3 _ _ _).symm), hF3.mono (by omega), fye, Nat.le_trans (readHex_le x) hxl, hle, set1_below hw3 (Nat.le_refl _) _ _, Nat.lt_of_lt_of_eq (by omega) (set1_size w3 _ _ _).symm⟩
              rw [HST.out]
              unfold Fm.partF
              rw [if_pos rfl]
            case measure =>
              have h3 : (set1 w3 w1.heap.size 9 (.slice A3 (Fm.readHex x).length c3)).heap[w1.heap.size + 1]? = some (.stringIter (str q) (j + 1)) := (set1_other w3 (by omega) _ _).trans HI3.out
              have h4 : (set1 w3 w1.heap.size 9 (.slice A3 (Fm.readHex x).length c3)).iterPos (w1.heap.size + 1) = j + 1 := by unfold World.iterPos; rw [h3]
              have h5 := HPOS0.out
              unfold set1 at h4
              rw [h4, h5]; omega
          by_cases h107 : c = 107
          · subst h107
            have nx' : ∀ ty : TypeId, (Instr.next (.pointer (some ⟨w1.heap.size + 1, 0, none⟩)) true ty).run Tryd.prog wr = .ok (.tuple #[.bool true, .int .i64 (j : Int), .int .i32 107]) wn := nx
            clear nx
            have e1 : ((107 : Int) == 120) = false := rfl
            have e2 : ((107 : Int) == 107) = true := rfl
            have CX := Lib.hid readKept_any
            go_wp2_with fail
            refine (CX.out x _ hxl).mono ?_
            rintro e' w3 ⟨A3, c3, rfl, hB3, hF3, hb3⟩
            have hs3 := hb3.size
            have hw3 : Below w1.heap.size w1 w3 := hw'.trans (hb3.mono (by omega))
            have HA3 := Lib.hid ((hb3.block _ (by omega)).trans HA.out)
            have HI3 := Lib.hid ((hb3.block _ (by omega)).trans HI.out)
            have hyd3 := hyd'.below hb3 hb3.size
            clear cA fA hb3
            have cA := blk_cell HA3.out
            have fA := blk_frozen HA3.out
            go_wp2_with fail
            go_roundw
            case rel =>
              refine ⟨j + 1, bk, ba, bb, bn, bo, bp, bt, bm, br, yd, A3, ydc, c3, bd, Fm.readKept x, by omega, ?_, set1_blk10 HA3.out _, (set1_other w3 (by omega) _ _).trans HI3.out, hyd3.fresh (B := w1.heap.size + 2) fyd (fun p h _ => set1_cell w3 (by omega) _) (Nat.le_of_eq (set1_size w3 _ _ _).symm), hB3.fresh (B := w1.heap.size + 2) (hF3.mono (by omega)) (fun p h _ => set1_cell w3 (by omega) _) (Nat.le_of_eq (set1_size w3 _ _ _).symm), fyd, hF3.mono (by omega), hld, Nat.le_trans (readKept_le x) hxl, set1_below hw3 (Nat.le_refl _) _ _, Nat.lt_of_lt_of_eq (by omega) (set1_size w3 _ _ _).symm⟩
              rw [HST.out]
              unfold Fm.partF
              rw [if_neg (by decide), if_pos rfl]
            case measure =>
              have h3 : (set1 w3 w1.heap.size 10 (.slice A3 (Fm.readKept x).length c3)).heap[w1.heap.size + 1]? = some (.stringIter (str q) (j + 1)) := (set1_other w3 (by omega) _ _).trans HI3.out
              have h4 : (set1 w3 w1.heap.size 10 (.slice A3 (Fm.readKept x).length c3)).iterPos (w1.heap.size + 1) = j + 1 := by unfold World.iterPos; rw [h3]
              have h5 := HPOS0.out
              unfold set1 at h4
              rw [h4, h5]; omega
          have e1 : ((c.toNat : Int) == 120) = false := u8_ne h120
          have e2 : ((c.toNat : Int) == 107) = false := u8_ne h107
          have hpf : Fm.partF ⟨bk, ba, bb, bn, bo, bp, bt, bm, br, bd, be⟩ c x = Fm.setN ⟨bk, ba, bb, bn, bo, bp, bt, bm, br, bd, be⟩ c (Fm.atoi x) := by unfold Fm.partF; rw [if_neg h120, if_neg h107]
          have hcd := copyP_d ⟨bk, ba, bb, bn, bo, bp, bt, bm, br, bd, be⟩ ⟨bk, ba, bb, bn, bo, bp, bt, bm, br, bd, be⟩ h120 h107
          rw [show Fm.copyP ⟨bk, ba, bb, bn, bo, bp, bt, bm, br, bd, be⟩ ⟨bk, ba, bb, bn, bo, bp, bt, bm, br, bd, be⟩ c = Fm.setN ⟨bk, ba, bb, bn, bo, bp, bt, bm, br, bd, be⟩ c (Fm.getN ⟨bk, ba, bb, bn, bo, bp, bt, bm, br, bd, be⟩ c) from by unfold Fm.copyP; rw [if_neg h120, if_neg h107]] at hcd
          have hcd2 : (Fm.setN ⟨bk, ba, bb, bn, bo, bp, bt, bm, br, bd, be⟩ c (Fm.atoi x)).d = bd ∧ (Fm.setN ⟨bk, ba, bb, bn, bo, bp, bt, bm, br, bd, be⟩ c (Fm.atoi x)).e = be := by
            unfold Fm.setN
            repeat' split
            all_goals exact ⟨rfl, rfl⟩
          rw [hpf] at HST
          have GS : Hid (∀ W : World, W.heap[w1.heap.size]? = some (.cells #[.int .i64 bk, .int .i64 ba, .int .i64 bb, .int .i64 bn, .int .i64 bo, .int .i64 bp, .int .i64 bt, .int .i64 bm, .int .i64 br, .slice yd bd.length ydc, .slice ye be.length yec] 39 (0, 0)) → (W.setCell ⟨w1.heap.size, off (c.toNat : Int), none⟩ (.int .i64 (Fm.atoi x))).heap[w1.heap.size]? = some (.cells #[.int .i64 (Fm.setN ⟨bk, ba, bb, bn, bo, bp, bt, bm, br, bd, be⟩ c (Fm.atoi x)).k, .int .i64 (Fm.setN ⟨bk, ba, bb, bn, bo, bp, bt, bm, br, bd, be⟩ c (Fm.atoi x)).a, .int .i64 (Fm.setN ⟨bk, ba, bb, bn, bo, bp, bt, bm, br, bd, be⟩ c (Fm.atoi x)).b, .int .i64 (Fm.setN ⟨bk, ba, bb, bn, bo, bp, bt, bm, br, bd, be⟩ c (Fm.atoi x)).n, .int .i64 (Fm.setN ⟨bk, ba, bb, bn, bo, bp, bt, bm, br, bd, be⟩ c (Fm.atoi x)).o, .int .i64 (Fm.setN ⟨bk, ba, bb, bn, bo, bp, bt, bm, br, bd, be⟩ c (Fm.atoi x)).p, .int .i64 (Fm.setN ⟨bk, ba, bb, bn, bo, bp, bt, bm, br, bd, be⟩ c (Fm.atoi x)).t, .int .i64 (Fm.setN ⟨bk, ba, bb, bn, bo, bp, bt, bm, br, bd, be⟩ c (Fm.atoi x)).m, .int .i64 (Fm.setN ⟨bk, ba, bb, bn, bo, bp, bt, bm, br, bd, be⟩ c (Fm.atoi x)).r, .slice yd bd.length ydc, .slice ye be.length yec] 39 (0, 0))) := Lib.hid (fun W h => off_set ⟨bk, ba, bb, bn, bo, bp, bt, bm, br, bd, be⟩ c (Fm.atoi x) h)
          obtain ⟨old, hold⟩ : ∃ old, Fm.getN ⟨bk, ba, bb, bn, bo, bp, bt, bm, br, bd, be⟩ c = old := ⟨_, rfl⟩
          have GB : Hid (∀ W : World, W.heap[w1.heap.size]? = some (.cells #[.int .i64 bk, .int .i64 ba, .int .i64 bb, .int .i64 bn, .int .i64 bo, .int .i64 bp, .int .i64 bt, .int .i64 bm, .int .i64 br, .slice yd bd.length ydc, .slice ye be.length yec] 39 (0, 0)) → W.cell? ⟨w1.heap.size, off (c.toNat : Int), none⟩ = some (.int .i64 old)) := Lib.hid (fun W h => by rw [blk_cell h, ← hold]; exact off_get ⟨bk, ba, bb, bn, bo, bp, bt, bm, br, bd, be⟩ c yd ye bd.length ydc be.length yec)
          obtain ⟨bb2, hbb2⟩ : ∃ bb2, Fm.setN ⟨bk, ba, bb, bn, bo, bp, bt, bm, br, bd, be⟩ c (Fm.atoi x) = bb2 := ⟨_, rfl⟩
          rw [hbb2] at hcd2 GS HST
          obtain ⟨zk, za, zb, zn, zo, zp, zt, zm, zr, zd, ze⟩ := bb2
          obtain ⟨hzd, hze⟩ : zd = bd ∧ ze = be := hcd2
          subst hzd
          subst hze
          obtain ⟨ci, hci⟩ : ∃ ci : Int, (c.toNat : Int) = ci := ⟨_, rfl⟩
          rw [hci] at e1 e2 nx GS GB
          obtain ⟨oi, hoi⟩ : ∃ oi, off ci = oi := ⟨_, rfl⟩
          rw [hoi] at GS GB
          have CPL := Lib.hid place_any
          have HOI := Lib.hid hoi
          have CAT := Lib.hid (atoi_any x)
          obtain ⟨fv, hfv⟩ : ∃ fv, Fm.atoi x = fv := ⟨_, rfl⟩
          have CAT2 : Hid (Calls Tryd.prog 31 #[.string (str x)] wn.drew fun e w' => ∃ err, e = .returned (.tuple #[.int .i64 fv, err]) ∧ Below wn.heap.size wn w') := Lib.hid (((CAT.out wn.drew (HE.out.below (hWn.trans ((Below.refl wn.heap.size wn).drew.mono (show w.heap.size ≤ wn.heap.size by omega)))) hxl)).mono (by
            rintro e w' ⟨err, rfl, hb⟩
            exact ⟨err, by rw [hfv], ((Below.refl _ wn).drew).trans hb⟩))
          rw [hfv] at GS
          have CPL2 : Hid (∀ W : World, Calls Tryd.prog 32 #[.pointer (some ⟨w1.heap.size, 0, none⟩), .int .i32 ci] W fun e w' => e = .returned (.pointer (some ⟨w1.heap.size, oi, none⟩)) ∧ W = w') := Lib.hid (fun W => by have := place_any w1.heap.size ci W; rwa [hoi] at this)
          clear hcm hpf hcd hbb2 hci hold CPL CAT hoi hfv
          go_wp2_with fail
          go_region_with (first
            | (refine (CPL2.out _).mono ?_; rintro e' w3 ⟨rfl, rfl⟩)
            | (refine CAT2.out.mono ?_; rintro e' w3 ⟨err, rfl, hb3⟩; have hs3 := hb3.size; have hw3 := hw'.trans (hb3.mono (by omega)); have HA3 := Lib.hid ((hb3.block _ (by omega)).trans HA.out); have HI3 := Lib.hid ((hb3.block _ (by omega)).trans HI.out); have hyd3 := hyd'.below hb3 hb3.size; have hye3 := hye'.below hb3 hb3.size; have gb3 := GB.out w3 HA3.out; have fb3 : w3.frozen? ⟨w1.heap.size, oi, none⟩ = false := blk_frozen HA3.out oi; have GS3 := Lib.hid (GS.out w3 HA3.out); clear hb3))
          all_goals
            go_wp2_with fail
            go_roundw
            case rel =>
              refine ⟨j + 1, zk, za, zb, zn, zo, zp, zt, zm, zr, yd, ye, ydc, yec, _, _, by omega, HST.out, GS3.out, (set1_other w3 (show w1.heap.size + 1 ≠ w1.heap.size by omega) oi (.int .i64 fv)).trans HI3.out, hyd3.fresh (B := w1.heap.size + 2) fyd (fun p h _ => set1_cell w3 (by omega) _) (Nat.le_of_eq (set1_size w3 _ _ _).symm), hye3.fresh (B := w1.heap.size + 2) fye (fun p h _ => set1_cell w3 (by omega) _) (Nat.le_of_eq (set1_size w3 _ _ _).symm), fyd, fye, hld, hle, set1_below hw3 (Nat.le_refl _) _ _, Nat.lt_of_lt_of_eq (by omega) (set1_size w3 _ _ _).symm⟩
            case measure =>
              have h3 : (set1 w3 w1.heap.size oi (.int .i64 fv)).heap[w1.heap.size + 1]? = some (.stringIter (str q) (j + 1)) := (set1_other w3 (by omega) _ _).trans HI3.out
              have h4 : (set1 w3 w1.heap.size oi (.int .i64 fv)).iterPos (w1.heap.size + 1) = j + 1 := by unfold World.iterPos; rw [h3]
              have h5 := HPOS0.out
              unfold set1 at h4
              rw [h4, h5]; omega
        · obtain rfl : j = q.length := by omega
          rw [List.drop_length] at HG
          have nx : ∀ ty : TypeId, (Instr.next (.pointer (some ⟨w1.heap.size + 1, 0, none⟩)) true ty).run Tryd.prog wr = .ok (.tuple #[.bool false]) wr := fun ty => Lib.run_next_end_at (P := Tryd.prog) wr (w1.heap.size + 1) (str q) q.length ty hit (by rw [hszq]; omega)
          have HR3 := Lib.hid ((hw.block w.heap.size (by omega)).trans HR2.out)
          have hmf : mf = ⟨bk, ba, bb, bn, bo, bp, bt, bm, br, bd, be⟩ := HG.out
          rw [hmf] at HLR
          have hwr : Below w.heap.size w wr := hw1.trans (hw.mono (by omega))
          have hbd : Below wr.heap.size wr wr.drew := (Below.refl _ wr).drew
          have CL := Lib.hid (lineF_any bk ba bb bn bo bp bt bm br yd ye ydc yec bd be wr.drew (HE.out.below (hwr.trans (hbd.mono (by omega)))) (hyd.below hbd hbd.size) (hye.below hbd hbd.size) hld hle)
          obtain ⟨ln, hln⟩ : ∃ ln, Fm.line ⟨bk, ba, bb, bn, bo, bp, bt, bm, br, bd, be⟩ = ln := ⟨_, rfl⟩
          rw [hln] at HLR CL

          have cA := blk_cell HA.out
          have fA := blk_frozen HA.out
          have hq : ((str ln).toList == (str s).toList) = decide (ln = s) := by rw [str_toList, str_toList]; by_cases h : ln = s <;> simp [h]
          clear hln hmf hit
          go_wp2_with fail
          go_region_with (refine CL.out.mono ?_; rintro e' w3 ⟨rfl, hb3'⟩; have hb3 : Below wr.heap.size wr w3 := hbd.trans hb3'; have hs3 := hb3.size; have hw3 := hw.trans (hb3.mono (by omega)); have HA3 := Lib.hid ((hb3.block _ (by omega)).trans HA.out); have HR4 := Lib.hid ((hb3.block _ (by omega)).trans HR3.out); have hyd3 := hyd.below hb3 hb3.size; have hye3 := hye.below hb3 hb3.size; have cA3 := blk_cell HA3.out; have fA3 := blk_frozen HA3.out; have cR4 := blk_cell HR4.out; have fR4 := blk_frozen HR4.out; clear hb3 hb3')
          all_goals
            go_wp2_with fail
            exact bodyPost_ret (v := .tuple #[.agg #[.int .i64 bk, .int .i64 ba, .int .i64 bb, .int .i64 bn, .int .i64 bo, .int .i64 bp, .int .i64 bt, .int .i64 bm, .int .i64 br, .slice yd bd.length ydc, .slice ye be.length yec], .bool (decide (ln = s))]) (by simp [results, Tryd.results14, go_sem, cR4]) rfl ⟨⟨bk, ba, bb, bn, bo, bp, bt, bm, br, bd, be⟩, yd, ye, bd.length, ydc, be.length, yec, decide (ln = s), rfl, set11_below (hw1.trans (hw3.mono (by omega))) (Nat.le_refl _) _ _ _ _ _ _ _ _ _ _ _, (fun h => by rw [HLR.out, if_neg (of_decide_eq_false h)]), fun h => ⟨by rw [HLR.out, if_pos (of_decide_eq_true h)], rfl, rfl, hyd3.fresh (B := w1.heap.size + 2) fyd (fun p h _ => set11_cell w3 (by omega) _ _ _ _ _ _ _ _ _ _ _) (Nat.le_of_eq (set11_size w3 _ _ _ _ _ _ _ _ _ _ _ _).symm), hye3.fresh (B := w1.heap.size + 2) fye (fun p h _ => set11_cell w3 (by omega) _ _ _ _ _ _ _ _ _ _ _) (Nat.le_of_eq (set11_size w3 _ _ _ _ _ _ _ _ _ _ _ _).symm), fyd.mono (by omega), fye.mono (by omega), hld, hle⟩⟩
end Go.Proofs.YtjcbfbdbgplakaaDoor
