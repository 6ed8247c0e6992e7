import Derived.RangeFuncKeeps
import Derived.RangeFuncLeaves
import Derived.RangeFuncCalls
import Derived.Shelf.Abstract
import Derived.WalkKit
import Derived.OwnWalkIn
import Derived.TacticsInMore
import Derived.LoopNIn
import Derived.LoopIn
import Derived.RangeFuncNested
import Derived.RangeFuncBound
import Derived.Test.YtjcbfbdbgplakaaDoorW14
namespace Go.Proofs.YtjcbfbdbgplakaaDoor
open Go.RowKit Go.Shelf
open Fm (Bs Mv)
attribute [local go_sem] Oper.semAt_some

/-- The iterator's three boxes. -/
def Boxes (W : World) (bs : Nat) (s : Bs) : Prop :=
  W.heap[bs]? = some (.cells #[.string (str s)] 9 (0, 0)) ∧ W.heap[bs + 1]? = some (.cells #[.string ⟨#[10]⟩] 9 (0, 0)) ∧ W.heap[bs + 2]? = some (.cells #[.int .i64 0] 3 (0, 0))

theorem index_cases : ∀ s : Bs, (Lib.indexByte s 10 = -1 ∧ Fm.splitOn 10 s = [s]) ∨ (∃ i : Nat, Lib.indexByte s 10 = i ∧ i < s.length ∧ Fm.splitOn 10 s = s.take i :: Fm.splitOn 10 (s.drop (i + 1)))
  | [] => .inl ⟨rfl, rfl⟩
  | x :: r => by
    by_cases h : x = 10
    · subst h
      exact .inr ⟨0, by simp [Lib.indexByte], by simp, by simp [Fm.splitOn]⟩
    · rcases index_cases r with ⟨h1, h2⟩ | ⟨i, h1, h2, h3⟩
      · exact .inl ⟨by simp [Lib.indexByte, h, h1], by simp [Fm.splitOn, h, h2]⟩
      · refine .inr ⟨i + 1, ?_, by simp; omega, by simp [Fm.splitOn, h, h3]⟩
        have : ¬ ((i : Int) = -1) := by omega
        simp [Lib.indexByte, h, h1, this]
noncomputable def boxLen (W : World) (bs : Nat) : Nat := match W.cell? ⟨bs, 0, none⟩ with | some (.string s) => s.size | _ => 0
theorem boxLen_eq {W : World} {bs : Nat} {s : Bs} (h : Boxes W bs s) : boxLen W bs = s.length := by
  unfold boxLen
  rw [blk_cell h.1 0]
  exact str_size s
theorem str_cut_to (s : Bs) (b : Nat) (hb : b ≤ s.length) (W : World) : (Instr.slice 9 (.string (str s)) none (some (.int .i64 (b : Int))) none).run Tryd.prog W = .ok (.string (str (s.take b))) W := by
  rw [run_slice_string_h W 9 _ Tryd.underlying9 .i64 (b : Int) (by omega) (by rw [str_size]; omega)]
  congr 2
  apply ByteArray.ext
  simp [str]
theorem str_cut_from (s : Bs) (a : Nat) (ha : a ≤ s.length) (W : World) : (Instr.slice 9 (.string (str s)) (some (.int .i64 (a : Int))) none none).run Tryd.prog W = .ok (.string (str (s.drop a))) W := by
  rw [run_slice_string_l W 9 _ Tryd.underlying9 .i64 (a : Int) (by omega) (by rw [str_size]; omega)]
  congr 2
  apply ByteArray.ext
  simp only [str, ByteArray.size, ByteArray.data_extract, Int.toNat_natCast, List.extract_toArray, List.size_toArray, List.extract_eq_take_drop]
  rw [List.take_of_length_le (by simp)]
theorem Boxes.step {W : World} {bs : Nat} {s t : Bs} (h : Boxes W bs s) : Boxes (W.setCell ⟨bs, 0, none⟩ (.string (str t))) bs t := by
  refine ⟨?_, (Below.heap_setCell W ⟨bs, 0, none⟩ _ (bs + 1) (by simp)).trans h.2.1, (Below.heap_setCell W ⟨bs, 0, none⟩ _ (bs + 2) (by simp)).trans h.2.2⟩
  simp [World.setCell, Array.getElem?_modify, h.1]

set_option maxRecDepth 100000 in
set_option maxHeartbeats 2000000 in
theorem iter43 (n : Nat) (hn : 2 ≤ n) (l bs : Nat) (s : Bs) (hl : s.length ≤ 1048576) (J Jx : List Bs → World → Prop)
    (hJ : ∀ pre A B, J pre A → A.grownBy B (some bs) → J pre B)
    (hY : ∀ pre x rest W t, J pre W → Fm.splitOn 10 s = pre ++ x :: rest → Boxes W bs t → YieldAt Fence.wide (n - 1) Tryd.prog l #[.string (str x)] W fun e W' =>
      (e = .returned (.bool true) ∧ J (pre ++ [x]) W' ∧ Boxes W' bs t) ∨ (e = .returned (.bool false) ∧ Jx (pre ++ [x]) W'))
    (W : World) (hB : Boxes W bs s) (h0 : J [] W) :
    CallsIn Fence.wide n Tryd.prog 43 #[.func (.yield l) #[] #[], .pointer (some ⟨bs + 1, 0, none⟩), .pointer (some ⟨bs, 0, none⟩), .pointer (some ⟨bs + 2, 0, none⟩)] W fun e W' => (∃ v, e = .returned v) ∧
      (J (Fm.splitOn 10 s) W' ∨ ∃ pre, pre <+: Fm.splitOn 10 s ∧ Jx pre W') := by
  have CX : Hid (∀ (t : Bs) (w : World), CallsIn Fence.wide (n - 1) Tryd.prog 45 #[.string (str t), .string ⟨#[10]⟩] w fun e w' => e = .returned (.int .i64 (Lib.indexByte t 10)) ∧ w' = w) := Lib.hid (fun t w => callsIn_wide.2 (by have := Tryd.strings_Index_one (str t) 10 w; rwa [str_data] at this))
  refine callsIn_of_wp Tryd.func43 rfl trivial ?_ rfl
  simp only [Tryd.ntmps43, List.size_toArray, List.length_cons, List.length_nil, Nat.reduceAdd, Nat.reduceSub, Array.replicate_succ, Array.replicate_zero, List.push_toArray, List.append_toArray, List.nil_append, List.cons_append]
  have HB := Lib.hid hB
  have c0 := blk_cell hB.1 0
  have c1 := blk_cell hB.2.1 0
  have c2 := blk_cell hB.2.2 0
  clear hB
  gi_wp2
  gi_loopw [] (fun wr => ∃ (pre : List Bs) (rest : Bs), Fm.splitOn 10 s = pre ++ Fm.splitOn 10 rest ∧ Boxes wr bs rest ∧ J pre wr ∧ rest.length ≤ s.length)
    (fun wr => boxLen wr bs)
  case atStart => exact ⟨[], s, rfl, HB.out, h0, Nat.le_refl _⟩
  case round =>
    obtain ⟨pre, rest, hsp, hB, hJp, hrl⟩ := hrel
    clear c0 c1 c2
    have HB := Lib.hid hB
    have c0 := blk_cell hB.1 0
    have c1 := blk_cell hB.2.1 0
    have c2 := blk_cell hB.2.2 0
    have f0 := blk_frozen hB.1 0
    rcases index_cases rest with ⟨hi, hs1⟩ | ⟨i, hi, hil, hs1⟩
    · rw [hs1] at hsp
      obtain ⟨fn, tmps, assign, body, hy, hR⟩ := hY pre rest [] wr rest hJp hsp hB
      clear hs1
      gi_wp2_with fail
      refine ⟨trivial, fun _ => by omega, (CX.out _ _).mono ?_⟩
      rintro e w' ⟨rfl, rfl⟩
      rw [hi]
      gi_wp2_with fail
      refine ⟨fun _ => by omega, hR.mono ?_⟩
      rintro e W3 (⟨rfl, hJ3, hB3⟩ | ⟨rfl, hJx3⟩)
      · gi_wp2
        go_end0
        exact ⟨⟨_, rfl⟩, .inl (by rw [hsp]; exact hJ3)⟩
      · gi_wp2
        go_end0
        exact ⟨⟨_, rfl⟩, .inr ⟨pre ++ [rest], by rw [hsp]; exact List.prefix_refl _, hJx3⟩⟩
    · rw [hs1] at hsp
      obtain ⟨fn, tmps, assign, body, hy, hR⟩ := hY pre (rest.take i) (Fm.splitOn 10 (rest.drop (i + 1))) wr rest hJp hsp hB
      have k1 := str_cut_to rest i (by omega)
      have k2 : ∀ W : World, (Instr.slice 9 (.string (str rest)) (some (.int .i64 ((i : Int) + 1))) none none).run Tryd.prog W = .ok (.string (str (rest.drop (i + 1)))) W := fun W => by
        have h := str_cut_from rest (i + 1) (by omega) W
        rwa [show ((i + 1 : Nat) : Int) = (i : Int) + 1 from by omega] at h
      clear hs1
      gi_wp2_with fail
      refine ⟨trivial, fun _ => by omega, (CX.out _ _).mono ?_⟩
      rintro e w' ⟨rfl, rfl⟩
      rw [hi]
      gi_wp2_with fail
      refine ⟨fun _ => by omega, hR.mono ?_⟩
      rintro e W3 (⟨rfl, hJ3, hB3⟩ | ⟨rfl, hJx3⟩)
      · have d0 := blk_cell hB3.1 0
        have d1 := blk_cell hB3.2.1 0
        have d2 := blk_cell hB3.2.2 0
        have e0 := blk_frozen hB3.1 0
        clear c0 c1 c2 f0
        gi_wp2
        go_roundw
        case rel => exact ⟨pre ++ [rest.take i], rest.drop (i + 1), by rw [hsp]; simp, hB3.step, hJ _ _ _ hJ3 (grownBy_setCell' _ _ _), by rw [List.length_drop]; omega⟩
        case measure => rw [boxLen_eq hB3.step, boxLen_eq HB.out, List.length_drop]; omega
      · gi_wp2
        refine bodyPost_ret (results_none rfl _ _ _) rfl ?_
        exact ⟨⟨_, rfl⟩, .inr ⟨pre ++ [rest.take i], by rw [hsp]; exact ⟨Fm.splitOn 10 (rest.drop (i + 1)), by simp⟩, hJx3⟩⟩

theorem Boxes.kept {A B : World} {bs : Nat} {t : Bs} {row : Option Nat} (h : Boxes A bs t) (hg : A.grownBy B row) (hr : ∀ r, row = some r → bs + 2 < r) : Boxes B bs t := by
  have lt : ∀ k o, A.heap[k]? = some o → k < A.heap.size := fun k o e => (Array.getElem?_eq_some_iff.1 e).1
  refine ⟨(hg.block bs (lt _ _ h.1) ?_).trans h.1, (hg.block _ (lt _ _ h.2.1) ?_).trans h.2.1, (hg.block _ (lt _ _ h.2.2) ?_).trans h.2.2⟩
  all_goals (intro e; have := hr _ e.symm; omega)
/-- How a round may be left. -/
def roundWay (D bs : Nat) (t : Bs) (I Ix : List Bs → World → Prop) (xs : List Bs) (W : World) : Exit → Act → World → Prop
  | .normal, _, W' => KeepsFrom D W W' ∧ I xs W' ∧ Boxes W' bs t
  | .ret, _, W' => KeepsFrom D W W' ∧ Ix xs W'
  | .exit _, _, _ => False
  | .goto _, _, _ => False
  | .panic _, _, _ => False
  | .outgrown, _, _ => False
/-- What the caller's word abides: the store into the iterator's box; a turn of what is no cells, from D on. -/
def Stays (D bs : Nat) (I : List Bs → World → Prop) : Prop := ∀ pre A B row, I pre A → A.grownBy B row → (∀ r, row = some r → r = bs ∨ (D ≤ r ∧ ∃ o : Obj, A.heap[r]? = some o ∧ o.isCells = false)) → I pre B

set_option maxHeartbeats 1000000 in
theorem range43 {n : Nat} (hn : 4 ≤ n) {g : Operand} {p : Tmp} {assign body : Code} {Q : Exit → Act → World → Prop} {a : Act} {w : World} {bs : Nat} {s : Bs} (hl : s.length ≤ 1048576)
    (hg : a.eval g = .func (.func 43) #[] #[.pointer (some ⟨bs + 1, 0, none⟩), .pointer (some ⟨bs, 0, none⟩), .pointer (some ⟨bs + 2, 0, none⟩)]) (hB : Boxes w bs s) (hD : bs + 2 < w.heap.size)
    (I Ix : List Bs → World → Prop) (hI : Stays w.heap.size bs I) (hIx : Stays w.heap.size bs Ix) (h0 : I [] w) (a₁ : Bs → Act)
    (hassign : ∀ (l : Nat) (x : Bs) (W : World) (K : Act → World → Prop), K (a₁ x) W → assign.wpIn (Fence.wide.inRound l) (n - 1 - 1) Tryd.prog (Exit.then K (fun _ _ _ => False)) { tmps := ((#[p] : Array Tmp).zip #[.string (str x)]).foldl (fun t (p, v) => t.setIfInBounds p v) a.tmps, defers := [] } W)
    (hbody : ∀ (l : Nat) (pre : List Bs) (x : Bs) (rest : List Bs) (t : Bs) (W : World), I pre W → Fm.splitOn 10 s = pre ++ x :: rest → Boxes W bs t → w.heap.size < W.heap.size → body.wpIn (Fence.wide.inRound l) (n - 1 - 1) Tryd.prog (roundWay w.heap.size bs t I Ix (pre ++ [x]) W) (a₁ x) W)
    (hdone : ∀ (W : World), I (Fm.splitOn 10 s) W → W.heap[w.heap.size]? = some (.deferred (some [])) → Q .normal { a with defers := { target := .collected w.heap.size, args := #[] } :: a.defers } W)
    (hstop : ∀ (pre : List Bs) (W : World), pre <+: Fm.splitOn 10 s → Ix pre W → W.heap[w.heap.size]? = some (.deferred (some [])) → Code.ret.wpIn Fence.wide n Tryd.prog Q { a with defers := { target := .collected w.heap.size, args := #[] } :: a.defers } W) :
    (Code.rangeFunc g #[p] assign body).wpIn Fence.wide n Tryd.prog Q a w := by
  refine wpIn_rangeFunc ?_
  intro fn hfn
  obtain ⟨rec, hrec⟩ : ∃ rec : LoopState → Option Code → Loop, rec = fun st pe => { state := st, pending := pe, fn, tmps := a.tmps, params := #[p], assign, body, defers := w.heap.size } := ⟨_, rfl⟩
  obtain ⟨D, hDD⟩ : ∃ D, w.heap.size = D := ⟨_, rfl⟩
  obtain ⟨W1, hW1⟩ : ∃ W1, (w.alloc (.deferred (some []))).alloc (.loop (rec .ready none)) = W1 := ⟨_, rfl⟩
  have hL1 : W1.heap[D + 1]? = some (.loop (rec .ready none)) := by
    rw [← hW1, ← hDD]
    have := blk_new (w.alloc (.deferred (some []))) (.loop (rec .ready none))
    simpa using this
  have hK1 : W1.heap[D]? = some (.deferred (some [])) := by
    rw [← hW1, ← hDD, blk_old _ (by simp)]
    exact blk_new _ _
  have hg1 : w.grownBy W1 none := by
    rw [← hW1]
    exact Below.grown0' (((Below.refl _ w).alloc (Nat.le_refl _) _).alloc (by simp) _)
  have hI1 : I [] W1 := hI _ _ _ _ h0 hg1 (fun r e => by cases e)
  have hB1 : Boxes W1 bs s := hB.kept hg1 (fun r e => by cases e)
  -- the record's turns
  have putI : ∀ (K : List Bs → World → Prop), Stays w.heap.size bs K → ∀ pre W o o', K pre W → W.heap[D + 1]? = some o → o.isCells = false → K pre (W.putObj (D + 1) o') := fun K hK pre W o o' h1 h2 h3 =>
    hK _ _ _ _ h1 (grownBy_putObj' W (D + 1) o') (fun r e => by cases e; exact .inr ⟨by omega, o, h2, h3⟩)
  refine ⟨D + 1, [{ target := .collected D, args := #[] }], W1, { target := .fn (.func 43) #[.pointer (some ⟨bs + 1, 0, none⟩), .pointer (some ⟨bs, 0, none⟩), .pointer (some ⟨bs + 2, 0, none⟩)], args := #[.func (.yield (D + 1)) #[] #[]] }, W1, 43,
    #[.func (.yield (D + 1)) #[] #[], .pointer (some ⟨bs + 1, 0, none⟩), .pointer (some ⟨bs, 0, none⟩), .pointer (some ⟨bs + 2, 0, none⟩)], W1, ?_, ?_, fun _ _ => trivial, ?_, fun _ => by omega, ?_⟩
  · rw [← hW1, ← hDD, hrec]; exact run_enterLoop_outer _ _ _ _ _
  · simp only [resolve, hg]
    simp [go_sem]
  · simp [invoke, go_sem]
  · refine (iter43 (n - 1) (by omega) (D + 1) bs s hl
      (fun pre W => I pre W ∧ W.heap[D + 1]? = some (.loop (rec .ready none)) ∧ W.heap[D]? = some (.deferred (some [])))
      (fun pre W => Ix pre W ∧ W.heap[D + 1]? = some (.loop (rec .done (some .ret))) ∧ W.heap[D]? = some (.deferred (some [])))
      (fun pre A B h hg' => ?_) ?_ W1 hB1 ⟨hI1, hL1, hK1⟩).mono ?_
    · have lt : ∀ k o, A.heap[k]? = some o → k < A.heap.size := fun k o e => (Array.getElem?_eq_some_iff.1 e).1
      refine ⟨hI _ _ _ _ h.1 hg' (fun r e => by cases e; exact .inl rfl), (hg'.block _ (lt _ _ h.2.1) ?_).trans h.2.1, (hg'.block _ (lt _ _ h.2.2) ?_).trans h.2.2⟩
      all_goals (intro e; injection e with e; omega)
    · rintro pre x rest W t ⟨hi, hlp, hk⟩ hsp hb
      have hlt : D + 1 < W.heap.size := (Array.getElem?_eq_some_iff.1 hlp).1
      have hy := run_yield (P := Tryd.prog) (args := #[.string (str x)]) hlp (by rw [hrec]; rfl)
      rw [hrec] at hy
      refine ⟨fn, _, assign, body, hy, roundIn_of_wpIn hfn (hassign _ x W _ ⟨_, run_beginRound hlp (by rw [hrec]), ?_⟩)⟩
      obtain ⟨W2, hW2⟩ : ∃ W2, W.putObj (D + 1) (.loop { rec .ready none with state := .busy }) = W2 := ⟨_, rfl⟩
      have hl2 : W2.heap[D + 1]? = some (.loop { rec .ready none with state := .busy }) := by rw [← hW2]; exact World.putObj_heap_same hlt
      have hk2 : W2.heap[D]? = some (.deferred (some [])) := by rw [← hW2]; exact (World.putObj_heap_other (by omega)).trans hk
      have hi2 : I pre W2 := by rw [← hW2]; exact putI I hI _ _ _ _ hi hlp rfl
      have hb2 : Boxes W2 bs t := by rw [← hW2]; exact hb.kept (grownBy_putObj' _ _ _) (fun r e => by cases e; omega)
      have hs2 : w.heap.size < W2.heap.size := by have := (Array.getElem?_eq_some_iff.1 hl2).1; omega
      rw [hW2]
      refine wpIn_mono (hbody _ pre x rest t W2 hi2 hsp hb2 hs2) ?_
      have fin : ∀ (jump : Option Code) (W3 : World), KeepsFrom w.heap.size W2 W3 →
          (Instr.endRound (D + 1) jump).run Tryd.prog W3 = .ok (.bool jump.isNone) (W3.putObj (D + 1) (.loop (rec (if jump.isNone then .ready else .done) jump))) ∧
          W3.heap[D + 1]? = some (.loop { rec .ready none with state := .busy }) ∧
          (W3.putObj (D + 1) (.loop (rec (if jump.isNone then .ready else .done) jump))).heap[D + 1]? = some (.loop (rec (if jump.isNone then .ready else .done) jump)) ∧
          (W3.putObj (D + 1) (.loop (rec (if jump.isNone then .ready else .done) jump))).heap[D]? = some (.deferred (some [])) := fun jump W3 hk3 => by
        have hl3 := hk3.same _ _ (by omega) hl2 rfl
        have h := run_endRound (P := Tryd.prog) jump hl3
        rw [hrec] at h ⊢
        exact ⟨h, by rw [hrec] at hl3; exact hl3, World.putObj_heap_same (Array.getElem?_eq_some_iff.1 hl3).1, (World.putObj_heap_other (by omega)).trans (hk3.same _ _ (by omega) hk2 rfl)⟩
      rintro e a3 W3 hp
      cases e with
      | normal =>
        obtain ⟨hk3, hi3, hb3⟩ := hp
        obtain ⟨hr, hl3, hl4, hk4⟩ := fin none W3 hk3
        exact ⟨_, _, hr, .inl ⟨rfl, ⟨putI I hI _ _ _ _ hi3 hl3 rfl, hl4, hk4⟩, hb3.kept (grownBy_putObj' _ _ _) (fun r e => by cases e; omega)⟩⟩
      | ret =>
        obtain ⟨hk3, hi3⟩ := hp
        obtain ⟨hr, hl3, hl4, hk4⟩ := fin (some .ret) W3 hk3
        exact ⟨_, _, hr, .inr ⟨rfl, putI Ix hIx _ _ _ _ hi3 hl3 rfl, hl4, hk4⟩⟩
      | exit id => exact hp.elim
      | goto t => exact hp.elim
      | panic ch => exact hp.elim
      | outgrown => exact hp.elim
    · rintro e W2 ⟨⟨v, rfl⟩, (⟨hi, hl', hk⟩ | ⟨pre, hpre, hi, hl', hk⟩)⟩
      · refine ⟨none, _, by have h := run_endLoop (P := Tryd.prog) hl' (by rw [hrec]; simp); rw [hrec] at h; exact h, ?_⟩
        rw [← hDD]
        exact hdone _ (by rw [hDD]; exact putI I hI _ _ _ _ hi hl' rfl) (by rw [hDD]; exact (World.putObj_heap_other (by omega)).trans hk)
      · refine ⟨some .ret, _, by have h := run_endLoop (P := Tryd.prog) hl' (by rw [hrec]; simp); rw [hrec] at h; exact h, ?_⟩
        rw [← hDD]
        exact hstop pre _ hpre (by rw [hDD]; exact putI Ix hIx _ _ _ _ hi hl' rfl) (by rw [hDD]; exact (World.putObj_heap_other (by omega)).trans hk)
theorem splitSeq26_any (s sep : ByteArray) (n : Int) (w : World) :
    Calls Tryd.prog 26 #[.string s, .string sep, .int .i64 n] w fun e w' => e = .returned (.func (.func 43) #[] #[.pointer (some ⟨w.heap.size + 1, 0, none⟩), .pointer (some ⟨w.heap.size, 0, none⟩), .pointer (some ⟨w.heap.size + 2, 0, none⟩)]) ∧ w' = ((w.alloc (.cells #[.string s] 9)).alloc (.cells #[.string sep] 9)).alloc (.cells #[.int .i64 n] 3) := by
  go_enter Tryd.func26, Tryd.ntmps26
  go_wp2
  go_ret
  exact ⟨rfl, rfl⟩
theorem splitSeq13_any (s sep : ByteArray) (w : World) :
    Calls Tryd.prog 13 #[.string s, .string sep] w fun e w' => e = .returned (.func (.func 43) #[] #[.pointer (some ⟨w.heap.size + 1, 0, none⟩), .pointer (some ⟨w.heap.size, 0, none⟩), .pointer (some ⟨w.heap.size + 2, 0, none⟩)]) ∧ w' = ((w.alloc (.cells #[.string s] 9)).alloc (.cells #[.string sep] 9)).alloc (.cells #[.int .i64 0] 3) := by
  go_enter Tryd.func13, Tryd.ntmps13
  go_wp2_with fail
  refine (splitSeq26_any _ _ _ _).mono ?_
  rintro e w' ⟨rfl, rfl⟩
  go_wp2
  go_ret
  exact ⟨rfl, rfl⟩
end Go.Proofs.YtjcbfbdbgplakaaDoor
