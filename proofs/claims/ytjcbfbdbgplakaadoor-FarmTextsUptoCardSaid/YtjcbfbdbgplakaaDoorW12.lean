import Derived.Deep.AppendLies
import Derived.Deep.RegionWith
import Derived.Deep.DeepMust
import Derived.Test.YtjcbfbdbgplakaaDoorW9
import Derived.Test.YtjcbfbdbgplakaaDoorW7
namespace Go.Proofs.YtjcbfbdbgplakaaDoor
open Go.RowKit
open Fm (Bs Mv)

theorem Fm.moves_snoc (f : Bs → Option Mv) : ∀ (a : List Bs) (s : Bs), Fm.moves f (a ++ [s]) = (Fm.moves f a).bind (fun ms => if s = [] then some ms else (f s).map (fun m => ms ++ [m]))
  | [], s => by
    simp only [List.nil_append, Fm.moves, Option.bind_some]
    by_cases h : s = []
    · rw [if_pos h, if_pos h]
    · rw [if_neg h, if_neg h]
      cases f s <;> rfl
  | x :: a, s => by
    simp only [List.cons_append, Fm.moves]
    by_cases hx : x = []
    · rw [if_pos hx, if_pos hx]; exact Fm.moves_snoc f a s
    · rw [if_neg hx, if_neg hx, Fm.moves_snoc f a s]
      cases f x with
      | none => rfl
      | some m =>
        simp only [Option.bind_some]
        cases Fm.moves f a with
        | none => rfl
        | some ms =>
          simp only [Option.bind_some, Option.map_some]
          by_cases h : s = []
          · rw [if_pos h, if_pos h]; rfl
          · rw [if_neg h, if_neg h]
            cases f s <;> rfl
theorem Fm.moves_none (f : Bs → Option Mv) {s : Bs} (r : List Bs) (h0 : s ≠ []) (hs : f s = none) : ∀ a : List Bs, Fm.moves f (a ++ s :: r) = none
  | [] => by simp only [List.nil_append, Fm.moves]; rw [if_neg h0, hs]; rfl
  | x :: a => by
    simp only [List.cons_append, Fm.moves]
    have ih := Fm.moves_none f r h0 hs a
    by_cases hx : x = []
    · rw [if_pos hx, ih]
    · rw [if_neg hx, ih]
      cases f x <;> rfl
theorem Fm.split_cat (c : UInt8) (b : Bs) : ∀ a : Bs, Fm.splitOn c (a ++ c :: b) = Fm.splitOn c a ++ Fm.splitOn c b
  | [] => by simp [Fm.splitOn]
  | x :: a => by
    have ih := Fm.split_cat c b a
    simp only [List.cons_append, Fm.splitOn]
    by_cases h : x = c
    · rw [if_pos h, if_pos h, ih]; rfl
    · rw [if_neg h, if_neg h, ih]
      cases hs : Fm.splitOn c a with
      | nil => exact absurd hs (Fm.splitOn_ne c a)
      | cons u v => rfl
/-! ### an owned row of moves -/
def Off (v : Value) (n : Nat) (A : Option Addr) : Prop := 0 < n → ∀ ad, A = some ad → some ad.block ≠ v.ownBlock
theorem Rd.grown {w w' : World} {size n : Nat} {A : Option Addr} {xs : List Value} {v : Value} (h : Rd w w.heap.size size A n xs) (ho : Off v n A) (hg : w.grownBy w' v.ownBlock) : Rd w' w'.heap.size size A n xs :=
  ⟨h.1, fun hn => by
    obtain ⟨ad, e, hb, hc⟩ := h.2 hn
    exact ⟨ad, e, Nat.lt_of_lt_of_le hb hg.size, fun j u hu => (hg.cell_far (ad.add j) (by rw [add_block]; exact hb) (by rw [add_block]; exact ho hn ad e)).trans (hc j u hu)⟩⟩
theorem Rd.grown0 {w w' : World} {size n : Nat} {A : Option Addr} {xs : List Value} (h : Rd w w.heap.size size A n xs) (hg : w.grownBy w' none) : Rd w' w'.heap.size size A n xs :=
  Rd.grown (v := .slice none 0 0) h (fun _ _ _ => by simp [Value.ownBlock]) hg
def flat (ms : List Mv) (xs : List At) : List Value := (ms.zip xs).flatMap fun y => cells y.1 y.2
def MvRow (W : World) (base : Nat) (t : TypeId) (v : Value) (ms : List Mv) : Prop :=
  ∃ xs : List At, xs.length = ms.length ∧ W.ownsRow base t 11 v ms.length (flat ms xs) ∧ ∀ y ∈ ms.zip xs, Mem W W.heap.size y.1 y.2 ∧ Off v y.1.d.length y.2.d ∧ Off v y.1.e.length y.2.e
theorem MvRow.nil (W : World) (base : Nat) (t : TypeId) : MvRow W base t (.slice none 0 0) [] := ⟨[], rfl, World.ownsRow_nil _ _ _ _, fun y hy => by simp at hy⟩
theorem MvRow.kept {W W' : World} {base : Nat} {t : TypeId} {v : Value} {ms : List Mv} (h : MvRow W base t v ms) (hg : W.grownBy W' none) : MvRow W' base t v ms := by
  obtain ⟨xs, h1, h2, h3⟩ := h
  refine ⟨xs, h1, h2.kept hg (by cases v.ownBlock <;> simp), fun y hy => ?_⟩
  obtain ⟨a, b, c⟩ := h3 y hy
  exact ⟨⟨a.d.grown0 hg, a.e.grown0 hg⟩, b, c⟩
theorem Below.grown0 {w w' : World} (h : Below w.heap.size w w') : w.grownBy w' none := ⟨h.os, h.tape, h.output, h.size, fun i hi _ => h.block i hi⟩
theorem MvRow.moves {W : World} {base : Nat} {t : TypeId} {A : Option Addr} {n c : Nat} {ms : List Mv} (h : MvRow W base t (.slice A n c) ms) : Moves W W.heap.size A ms.length ms := by
  obtain ⟨xs, h1, h2, h3⟩ := h
  refine ⟨xs, h1, rfl, ?_, fun y hy => (h3 y hy).1⟩
  have hn : n = ms.length := by
    rcases h2.2 with ⟨hv, h0⟩ | ⟨g, cap, cur, hv, _⟩
    · injection hv with _ hv _; omega
    · injection hv
  subst hn
  exact Rd.of_own h2
theorem MvRow.push {W W' : World} {base : Nat} {t : TypeId} {v : Value} {ms : List Mv} {m : Mv} {x : At} {g cap : Nat} {xs : List At}
    (h1 : xs.length = ms.length) (h3 : ∀ y ∈ ms.zip xs, Mem W W.heap.size y.1 y.2 ∧ Off v y.1.d.length y.2.d ∧ Off v y.1.e.length y.2.e)
    (hm : Mem W W.heap.size m x) (ho1 : Off v m.d.length x.d) (ho2 : Off v m.e.length x.e)
    (hown : W'.ownsRow base t 11 (.slice (some ⟨g, 0, none⟩) (ms.length + 1) cap) (ms.length + 1) (flat ms xs ++ cells m x)) (hg : W.grownBy W' v.ownBlock) (hat : v.ownBlock = some g ∨ g = W.heap.size) :
    MvRow W' base t (.slice (some ⟨g, 0, none⟩) (ms ++ [m]).length cap) (ms ++ [m]) := by
  have off : ∀ (n size : Nat) (A : Option Addr) (zs : List Value), Rd W W.heap.size size A n zs → Off v n A → Off (.slice (some ⟨g, 0, none⟩) (ms ++ [m]).length cap) n A := by
    intro n size A zs hr ho hn ad e
    obtain ⟨ad', e', hb, _⟩ := hr.2 hn
    rw [e] at e'
    injection e' with e'
    subst e'
    have h1 := ho hn ad e
    show some ad.block ≠ some g
    rcases hat with h | h
    · rw [← h]; exact h1
    · intro e2; injection e2 with e2; omega
  refine ⟨xs ++ [x], by simp [h1], ?_, ?_⟩
  · rw [List.length_append, List.length_singleton]
    have : flat (ms ++ [m]) (xs ++ [x]) = flat ms xs ++ cells m x := by
      unfold flat
      rw [List.zip_append h1.symm, List.flatMap_append]
      simp
    rw [this]
    exact hown
  · intro y hy
    rw [List.zip_append h1.symm] at hy
    rcases List.mem_append.1 hy with hy | hy
    · obtain ⟨a, b, c⟩ := h3 y hy
      exact ⟨⟨a.d.grown b hg, a.e.grown c hg⟩, off _ _ _ _ a.d b, off _ _ _ _ a.e c⟩
    · simp at hy
      subst hy
      exact ⟨⟨hm.d.grown ho1 hg, hm.e.grown ho2 hg⟩, off _ _ _ _ hm.d ho1, off _ _ _ _ hm.e ho2⟩

theorem blk_two (w : World) (o1 o2 : Obj) : ((w.alloc o1).alloc o2).heap[w.heap.size + 1]? = some o2 := by
  have := blk_new (w.alloc o1) o2
  simpa using this
theorem Tryd.info37 : (Tryd.prog.info? 37).map (fun i => (i.zero, i.size, i.bytes)) = some (some (.agg #[.int .i64 0, .int .i64 0, .int .i64 0, .int .i64 0, .int .i64 0, .int .i64 0, .int .i64 0, .int .i64 0, .int .i64 0, .slice none 0 0, .slice none 0 0]), 11, 120) := by kernel_rfl
theorem cells_one (m : Mv) (x : At) : ∀ u ∈ cells m x, u.oneCell' = true := by
  intro u hu
  simp only [cells, List.mem_cons, List.not_mem_nil, or_false] at hu
  rcases hu with rfl | rfl | rfl | rfl | rfl | rfl | rfl | rfl | rfl | rfl | rfl <;> rfl
def ParsePost (p : List Mv × Int) (w : World) (e : Ending) (w' : World) : Prop :=
  ∃ (A : Option Addr) (c : Nat), e = .returned (.tuple #[.slice A p.1.length c, .int .i64 p.2]) ∧ Moves w' w'.heap.size A p.1.length p.1 ∧ Below w.heap.size w w'
theorem Moves.none_ (w : World) (B : Nat) : Moves w B none 0 [] := ⟨[], rfl, rfl, Rd.nil, fun y hy => by simp at hy⟩
set_option maxRecDepth 100000 in
set_option maxHeartbeats 4000000 in
theorem parseR_any (s : Bs) (hs : s.length ≤ 1048575) (w : World) :
    Calls Tryd.prog 7 #[.string (str s)] w (ParsePost (Fm.parse s) w) := by
  obtain ⟨i0, hi, hz0, hz1, hz2⟩ := info_parts Tryd.info37
  have hsz : (str s).size = s.length := str_size s
  have CL := Lib.hid lineR_any
  obtain ⟨pr, hpr⟩ : ∃ pr, Fm.parse s = pr := ⟨_, rfl⟩
  rw [hpr]
  have HPR := Lib.hid hpr
  clear hpr
  go_enter Tryd.func7, Tryd.ntmps7
  go_wp2
  go_loopw [4, 5, 6] (fun v a i wr => ∃ (k at' : Nat) (dl : List Bs) (ms : List Mv) (g : Option Addr) (cp : Nat), i = .int .i64 k ∧ a = .int .i64 at' ∧ v = .slice g ms.length cp ∧ MvRow wr w.heap.size 37 (.slice g ms.length cp) ms ∧ Fm.moves Fm.lineR dl = some ms ∧ Below w.heap.size w wr ∧ ms.length ≤ k ∧
      k ≤ s.length + 1 ∧ (k ≤ s.length → at' ≤ k ∧ dl ++ [(s.take k).drop at'] = Fm.splitOn 10 (s.take k)) ∧ (k = s.length + 1 → dl = Fm.splitOn 10 s))
    (fun _ _ i _ => s.length + 1 - (intOf i).toNat)
  case atStart => exact ⟨0, 0, [], [], none, 0, rfl, rfl, rfl, MvRow.nil _ _ _, rfl, Below.refl _ _, Nat.le_refl _, by omega, fun _ => ⟨Nat.le_refl _, rfl⟩, by omega⟩
  case round =>
    obtain ⟨k, at', dl, ms, g, cp, rfl, rfl, rfl, hrow, hmv, hb, hdl, hk, h1, h2⟩ := hrel
    have H1 := Lib.hid h1
    have H2 := Lib.hid h2
    have HROW := Lib.hid hrow
    have HMV := Lib.hid hmv
    clear h1 h2 hrow hmv
    by_cases hle : k ≤ s.length
    · obtain ⟨hat, hsp⟩ := H1.out hle
      have HSP := Lib.hid hsp
      have cut := str_cut s at' k hat hle
      clear hsp
      obtain ⟨pc, hpc⟩ : ∃ pc, (s.take k).drop at' = pc := ⟨_, rfl⟩
      rw [hpc] at cut HSP
      have hpcl : pc.length ≤ 1048575 := by rw [← hpc, List.length_drop, List.length_take]; omega
      have HPC := Lib.hid hpc
      clear hpc
      by_cases hlt : k < s.length
      · have b0 : decide ((k : Int) < (s.length : Int)) = true := by simp; omega
        obtain ⟨x, hx⟩ : ∃ x, s[k] = x := ⟨_, rfl⟩
        have ix : ∀ W : World, (Instr.index 9 (.string (str s)) (.int .i64 (k : Int))).run Tryd.prog W = .ok (.int .u8 (x.toNat : Int)) W := fun W => by rw [← hx]; exact str_idx s .i64 k hlt W
        have hst := splitOn_snoc 10 (s.take k) x
        rw [← hx, ← List.take_succ_eq_append_getElem hlt, hx] at hst
        have HST := Lib.hid hst
        have HXx := Lib.hid hx
        clear hst hx
        by_cases hc : x = 10
        · have b1 : ((x.toNat : Int) == 10) = true := by rw [hc]; rfl
          have b2 : ((x.toNat : Int) != 10) = false := by rw [hc]; rfl
          have HFULL : Hid (∃ rest, Fm.splitOn 10 s = dl ++ pc :: rest) := Lib.hid ⟨Fm.splitOn 10 (s.drop (k + 1)), by
            have e : s = s.take k ++ 10 :: s.drop (k + 1) := by
              conv => lhs; rw [← List.take_append_drop k s, List.drop_eq_getElem_cons hlt]
              rw [HXx.out, hc]
            conv => lhs; rw [e]
            rw [Fm.split_cat, ← HSP.out, List.append_assoc]
            rfl⟩
          have HNX : Hid ((k + 1 ≤ s.length → k + 1 ≤ k + 1 ∧ (dl ++ [pc]) ++ [(s.take (k + 1)).drop (k + 1)] = Fm.splitOn 10 (s.take (k + 1))) ∧ (k + 1 = s.length + 1 → dl ++ [pc] = Fm.splitOn 10 s)) := Lib.hid ⟨fun _ => ⟨Nat.le_refl _, by rw [HST.out, if_pos hc, HSP.out, List.drop_of_length_le (by rw [List.length_take]; omega)]⟩, by omega⟩
          clear hc HST HXx HSP HPC H1 H2
          by_cases hp0 : pc = []
          · have e1 : ((str pc).toList == []) = true := by rw [str_toList, hp0]; rfl
            have HMV2 : Hid (Fm.moves Fm.lineR (dl ++ [pc]) = some ms) := Lib.hid (by rw [Fm.moves_snoc, HMV.out, Option.bind_some, if_pos hp0])
            clear hp0
            go_wp2
            go_roundw
            case rel => exact ⟨k + 1, k + 1, dl ++ [pc], ms, g, cp, by go_num, by go_num, rfl, HROW.out, HMV2.out, hb, by omega, by omega, HNX.out.1, fun h => HNX.out.2 (by first | exact h | trivial)⟩
            case measure => simp [intOf] <;> omega
          · have e1 : ((str pc).toList == []) = false := by rw [str_toList]; cases pc <;> simp at hp0 ⊢
            have HMV2 := Lib.hid (Fm.moves_snoc Fm.lineR dl pc)
            rw [HMV.out, Option.bind_some, if_neg hp0] at HMV2
            have HBAD : Hid (Fm.lineR pc = none → Fm.parse s = ([], 22)) := Lib.hid (fun hn => by
              obtain ⟨rest, hr⟩ := HFULL.out
              unfold Fm.parse
              rw [hr, Fm.moves_none Fm.lineR rest hp0 hn dl])
            clear hp0 HFULL
            go_wp2_with fail
            refine (CL.out pc hpcl _).mono ?_
            rintro e w3 (⟨hn, rfl, hb3⟩ | ⟨m, yd, ye, ydc, yec, hn, rfl, hyd, hye, fyd, fye, hld, hle2, hb3⟩)
            · have hw3 := hb.trans (hb3.mono hb.size)
              have HB2 := Lib.hid (HBAD.out hn)
              clear hn hb3
              go_wp2_with fail
              refine bodyPost_ret (results_tmp2 rfl _ _ _) rfl ?_
              rw [← HPR.out, HB2.out]
              exact ⟨none, 0, rfl, Moves.none_ _ _, (hw3.alloc hw3.size _)⟩
            · obtain ⟨mk, ma, mb, mn, mo, mp, mt, mm, mr, md, me⟩ := m
              have hw3 := hb.trans (hb3.mono hb.size)
              rw [hn, Option.map_some] at HMV2
              have hrow3 := HROW.out.kept (Below.grown0 hb3)
              have hb4 : Below w3.heap.size w3 ((w3.alloc (.cells #[.int .i64 mk, .int .i64 ma, .int .i64 mb, .int .i64 mn, .int .i64 mo, .int .i64 mp, .int .i64 mt, .int .i64 mm, .int .i64 mr, .slice yd md.length ydc, .slice ye me.length yec] 37)).alloc (.cells #[.int .i64 mk, .int .i64 ma, .int .i64 mb, .int .i64 mn, .int .i64 mo, .int .i64 mp, .int .i64 mt, .int .i64 mm, .int .i64 mr, .slice yd md.length ydc, .slice ye me.length yec] 37)) := ((Below.refl _ _).alloc (Nat.le_refl _) _).alloc (by simp) _
              obtain ⟨xs, hx1, hx2, hx3⟩ := hrow3.kept (Below.grown0 hb4)
              have hlt3 : ∀ j, (Value.slice g ms.length cp).ownBlock = some j → j < wr.heap.size := fun j hj => (HROW.out.choose_spec.2.1.lt j hj).2
              have HX1 := Lib.hid hx1
              have HX3 := Lib.hid hx3
              have HMD := Lib.hid (show Mem _ _ ⟨mk, ma, mb, mn, mo, mp, mt, mm, mr, md, me⟩ ⟨yd, ydc, ye, yec⟩ from ⟨hyd.below hb4 hb4.size, hye.below hb4 hb4.size⟩)
              have HO1 : Hid (Off (.slice g ms.length cp) md.length yd) := Lib.hid (fun _ ad e h => by have h1 := fyd ad e; have h2 := hlt3 _ h.symm; omega)
              have HO2 : Hid (Off (.slice g ms.length cp) me.length ye) := Lib.hid (fun _ ad e h => by have h1 := fye ad e; have h2 := hlt3 _ h.symm; omega)
              have hs3 := hb3.size
              clear hn hlt3 hx1 hx3 hrow3 hyd hye fyd fye hb3
              go_wp2_with (at_builtin; go_must (refine wpList_append_lies _ rfl _ _ 28 rfl w.heap.size 37 i0 (.agg #[.int .i64 0, .int .i64 0, .int .i64 0, .int .i64 0, .int .i64 0, .int .i64 0, .int .i64 0, .int .i64 0, .int .i64 0, .slice none 0 0, .slice none 0 0]) 11 120 Tryd.underlying28 hi hz0 hz1 hz2 rfl (by decide) _ _ _ rfl hx2 ⟨w3.heap.size + 1, 0, none⟩ 1 1 (cells ⟨mk, ma, mb, mn, mo, mp, mt, mm, mr, md, me⟩ ⟨yd, ydc, ye, yec⟩) rfl rfl (World.news_of_block (blk_two w3 _ _)) (cells_one _ _) (by decide) (by unfold maxLen; omega) (by omega) (by have := hb.size; simp; omega) _ rfl ?_))
              intro g1 cap w1 hown' hgrow hat1 _
              have HPU := Lib.hid (MvRow.push HX1.out HX3.out HMD.out HO1.out HO2.out hown' hgrow (by simpa using hat1))
              have hb1 : Below w.heap.size w w1 := (hw3.trans (hb4.mono hw3.size)).grown hgrow (by have := hb.size; simp; omega) (fun i hi => (hx2.lt i hi).1)
              clear hown' hgrow hat1
              go_wp2
              go_roundw
              case rel => exact ⟨k + 1, k + 1, dl ++ [pc], ms ++ [⟨mk, ma, mb, mn, mo, mp, mt, mm, mr, md, me⟩], _, _, by go_num, by go_num, by rw [List.length_append, List.length_singleton], HPU.out, HMV2.out, hb1, by simp; omega, by omega, HNX.out.1, fun h => HNX.out.2 (by first | exact h | trivial)⟩
              case measure => simp [intOf] <;> omega
        · have b1 : ((x.toNat : Int) == 10) = false := by
            simp only [beq_eq_false_iff_ne, ne_eq]
            intro h
            exact hc ((u8_eq _ _).2 (by show x.toNat = 10; omega))
          have b2 : ((x.toNat : Int) != 10) = true := by simp only [bne, b1, Bool.not_false]
          have HC := Lib.hid hc
          clear hc
          go_wp2
          go_roundw
          case rel =>
            refine ⟨k + 1, at', dl, ms, g, cp, by go_num, rfl, rfl, HROW.out, HMV.out, hb, by omega, by omega, fun _ => ⟨by omega, ?_⟩, by omega⟩
            rw [HST.out, if_neg HC.out, ← HSP.out, List.dropLast_concat, List.getLast?_concat]
            simp only [Option.getD_some]
            rw [← HPC.out, List.take_succ_eq_append_getElem hlt, List.drop_append_of_le_length (by rw [List.length_take]; omega), HXx.out]
          case measure => simp [intOf]; omega
      · obtain rfl : k = s.length := by omega
        have b0 : decide ((s.length : Int) < (s.length : Int)) = false := by simp
        rw [List.take_of_length_le (Nat.le_refl _)] at HSP
        have HFULL : Hid (∃ rest, Fm.splitOn 10 s = dl ++ pc :: rest) := Lib.hid ⟨[], HSP.out.symm⟩
        have HNX : Hid ((s.length + 1 ≤ s.length → s.length + 1 ≤ s.length + 1 ∧ (dl ++ [pc]) ++ [(s.take (s.length + 1)).drop (s.length + 1)] = Fm.splitOn 10 (s.take (s.length + 1))) ∧ (s.length + 1 = s.length + 1 → dl ++ [pc] = Fm.splitOn 10 s)) := Lib.hid ⟨by omega, fun _ => HSP.out⟩
        clear HSP HPC H1 H2
        by_cases hp0 : pc = []
        · have e1 : ((str pc).toList == []) = true := by rw [str_toList, hp0]; rfl
          have HMV2 : Hid (Fm.moves Fm.lineR (dl ++ [pc]) = some ms) := Lib.hid (by rw [Fm.moves_snoc, HMV.out, Option.bind_some, if_pos hp0])
          clear hp0
          go_wp2
          go_roundw
          case rel => exact ⟨s.length + 1, s.length + 1, dl ++ [pc], ms, g, cp, by go_num, by go_num, rfl, HROW.out, HMV2.out, hb, by omega, by omega, HNX.out.1, fun h => HNX.out.2 (by first | exact h | trivial)⟩
          case measure => simp [intOf] <;> omega
        · have e1 : ((str pc).toList == []) = false := by rw [str_toList]; cases pc <;> simp at hp0 ⊢
          have HMV2 := Lib.hid (Fm.moves_snoc Fm.lineR dl pc)
          rw [HMV.out, Option.bind_some, if_neg hp0] at HMV2
          have HBAD : Hid (Fm.lineR pc = none → Fm.parse s = ([], 22)) := Lib.hid (fun hn => by
            obtain ⟨rest, hr⟩ := HFULL.out
            unfold Fm.parse
            rw [hr, Fm.moves_none Fm.lineR rest hp0 hn dl])
          clear hp0 HFULL
          go_wp2_with fail
          refine (CL.out pc hpcl _).mono ?_
          rintro e w3 (⟨hn, rfl, hb3⟩ | ⟨m, yd, ye, ydc, yec, hn, rfl, hyd, hye, fyd, fye, hld, hle2, hb3⟩)
          · have hw3 := hb.trans (hb3.mono hb.size)
            have HB2 := Lib.hid (HBAD.out hn)
            clear hn hb3
            go_wp2_with fail
            refine bodyPost_ret (results_tmp2 rfl _ _ _) rfl ?_
            rw [← HPR.out, HB2.out]
            exact ⟨none, 0, rfl, Moves.none_ _ _, (hw3.alloc hw3.size _)⟩
          · obtain ⟨mk, ma, mb, mn, mo, mp, mt, mm, mr, md, me⟩ := m
            have hw3 := hb.trans (hb3.mono hb.size)
            rw [hn, Option.map_some] at HMV2
            have hrow3 := HROW.out.kept (Below.grown0 hb3)
            have hb4 : Below w3.heap.size w3 ((w3.alloc (.cells #[.int .i64 mk, .int .i64 ma, .int .i64 mb, .int .i64 mn, .int .i64 mo, .int .i64 mp, .int .i64 mt, .int .i64 mm, .int .i64 mr, .slice yd md.length ydc, .slice ye me.length yec] 37)).alloc (.cells #[.int .i64 mk, .int .i64 ma, .int .i64 mb, .int .i64 mn, .int .i64 mo, .int .i64 mp, .int .i64 mt, .int .i64 mm, .int .i64 mr, .slice yd md.length ydc, .slice ye me.length yec] 37)) := ((Below.refl _ _).alloc (Nat.le_refl _) _).alloc (by simp) _
            obtain ⟨xs, hx1, hx2, hx3⟩ := hrow3.kept (Below.grown0 hb4)
            have hlt3 : ∀ j, (Value.slice g ms.length cp).ownBlock = some j → j < wr.heap.size := fun j hj => (HROW.out.choose_spec.2.1.lt j hj).2
            have HX1 := Lib.hid hx1
            have HX3 := Lib.hid hx3
            have HMD := Lib.hid (show Mem _ _ ⟨mk, ma, mb, mn, mo, mp, mt, mm, mr, md, me⟩ ⟨yd, ydc, ye, yec⟩ from ⟨hyd.below hb4 hb4.size, hye.below hb4 hb4.size⟩)
            have HO1 : Hid (Off (.slice g ms.length cp) md.length yd) := Lib.hid (fun _ ad e h => by have h1 := fyd ad e; have h2 := hlt3 _ h.symm; omega)
            have HO2 : Hid (Off (.slice g ms.length cp) me.length ye) := Lib.hid (fun _ ad e h => by have h1 := fye ad e; have h2 := hlt3 _ h.symm; omega)
            have hs3 := hb3.size
            clear hn hlt3 hx1 hx3 hrow3 hyd hye fyd fye hb3
            go_wp2_with (at_builtin; go_must (refine wpList_append_lies _ rfl _ _ 28 rfl w.heap.size 37 i0 (.agg #[.int .i64 0, .int .i64 0, .int .i64 0, .int .i64 0, .int .i64 0, .int .i64 0, .int .i64 0, .int .i64 0, .int .i64 0, .slice none 0 0, .slice none 0 0]) 11 120 Tryd.underlying28 hi hz0 hz1 hz2 rfl (by decide) _ _ _ rfl hx2 ⟨w3.heap.size + 1, 0, none⟩ 1 1 (cells ⟨mk, ma, mb, mn, mo, mp, mt, mm, mr, md, me⟩ ⟨yd, ydc, ye, yec⟩) rfl rfl (World.news_of_block (blk_two w3 _ _)) (cells_one _ _) (by decide) (by unfold maxLen; omega) (by omega) (by have := hb.size; simp; omega) _ rfl ?_))
            intro g1 cap w1 hown' hgrow hat1 _
            have HPU := Lib.hid (MvRow.push HX1.out HX3.out HMD.out HO1.out HO2.out hown' hgrow (by simpa using hat1))
            have hb1 : Below w.heap.size w w1 := (hw3.trans (hb4.mono hw3.size)).grown hgrow (by have := hb.size; simp; omega) (fun i hi => (hx2.lt i hi).1)
            clear hown' hgrow hat1
            go_wp2
            go_roundw
            case rel => exact ⟨s.length + 1, s.length + 1, dl ++ [pc], ms ++ [⟨mk, ma, mb, mn, mo, mp, mt, mm, mr, md, me⟩], _, _, by go_num, by go_num, by rw [List.length_append, List.length_singleton], HPU.out, HMV2.out, hb1, by simp; omega, by omega, HNX.out.1, fun h => HNX.out.2 (by first | exact h | trivial)⟩
            case measure => simp [intOf] <;> omega
    · obtain rfl : k = s.length + 1 := by omega
      have hdl' := H2.out rfl
      have hpar : pr = if 4096 < ms.length then ([], 24) else (ms, 0) := by
        rw [← HPR.out]
        unfold Fm.parse
        rw [← hdl', HMV.out]
      have HP2 := Lib.hid hpar
      have hmvs := HROW.out.moves
      clear hpar hdl'
      by_cases h4 : 4096 < ms.length
      · rw [if_pos h4] at HP2
        go_wp2
        refine bodyPost_ret (results_tmp2 rfl _ _ _) rfl ?_
        rw [HP2.out]
        exact ⟨none, 0, rfl, Moves.none_ _ _, hb⟩
      · rw [if_neg h4] at HP2
        go_wp2
        refine bodyPost_ret (results_tmp2 rfl _ _ _) rfl ?_
        rw [HP2.out]
        exact ⟨g, cp, rfl, hmvs, hb⟩
end Go.Proofs.YtjcbfbdbgplakaaDoor
