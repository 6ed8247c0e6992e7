/-
  WALK: FarmTexts: the three loops; every call by its contract; it answers true whatever text and moves come in (bounded in length).
-/
import Derived.BigQuiet
import Derived.Deep.QuietTactic
import Derived.Deep.RegionWith
import Derived.Deep.RegionHeld3
import Derived.Deep.AppendLies
import Derived.Deep.DeepMust
import Derived.Test.YtjcbfbdbgplakaaDoorPl
import Derived.Test.YtjcbfbdbgplakaaDoorW5
import Derived.Test.YtjcbfbdbgplakaaDoorW14
import Derived.Test.YtjcbfbdbgplakaaDoorW17
import Derived.Test.YtjcbfbdbgplakaaDoorW16
namespace Go.Proofs.YtjcbfbdbgplakaaDoor
open Go.RowKit
open Fm (Bs Mv)
theorem flt_at (p : Mv → Bool) (ms : List Mv) (k : Nat) (hk : k < ms.length) :
    (p ms[k] = true → (ms.filter p)[((ms.take k).filter p).length]? = some ms[k] ∧ ((ms.take (k + 1)).filter p).length = ((ms.take k).filter p).length + 1) ∧
    (p ms[k] = false → ((ms.take (k + 1)).filter p).length = ((ms.take k).filter p).length) := by
  have h1 : ms.take (k + 1) = ms.take k ++ [ms[k]] := by rw [List.take_succ_eq_append_getElem hk]
  have h2 : ms.filter p = (ms.take k).filter p ++ (ms[k] :: ms.drop (k + 1)).filter p := by
    rw [← List.filter_append, ← List.drop_eq_getElem_cons hk, List.take_append_drop]
  rw [h1, List.filter_append, List.length_append]
  refine ⟨fun h => ⟨?_, ?_⟩, fun h => ?_⟩
  · rw [h2, List.filter_cons_of_pos h, List.getElem?_append_right (Nat.le_refl _)]
    simp
  · simp [h]
  · simp [h]
abbrev TEXTR : Prop := ∀ (ms : List Mv) (A : Option Addr) (c : Nat) (w : World) (_ : Moves w w.heap.size A ms.length ms) (_ : ∀ m ∈ ms, m.d.length ≤ 1048576 ∧ m.e.length ≤ 1048576) (_ : ms.length ≤ 4096),
    Calls Tryd.prog 11 #[.slice A ms.length c] w fun e w' => e = .returned (.string (str (Fm.text ms))) ∧ Below w.heap.size w w'
abbrev KNOWN : Prop := ∀ (w : World) (_ : Env w), Calls Tryd.prog 4 #[] w fun e w' => e = .returned (.bool true) ∧ Below w.heap.size w w'
abbrev FEW : Prop := ∀ (ms : List Mv) (A : Option Addr) (c : Nat) (w : World) (_ : Moves w w.heap.size A ms.length ms) (_ : ∀ m ∈ ms, m.d.length ≤ 1048576 ∧ m.e.length ≤ 1048576) (_ : ms.length ≤ 1048576),
    Calls Tryd.prog 5 #[.slice A ms.length c] w (FewPost ms w)
abbrev mvv (k a b n o p t m r : Int) (D : Option Addr) (dn dc : Nat) (E : Option Addr) (en ec : Nat) : Value := .agg #[.int .i64 k, .int .i64 a, .int .i64 b, .int .i64 n, .int .i64 o, .int .i64 p, .int .i64 t, .int .i64 m, .int .i64 r, .slice D dn dc, .slice E en ec]
abbrev SAMER : Prop := ∀ (xk xa xb xn xo xp xt xm xr : Int) (xD xE : Option Addr) (xdc xec : Nat) (xd : Bs) (xe : List Bool) (yk ya yb yn yo yp yt ym yr : Int) (yD yE : Option Addr) (ydc yec : Nat) (yd : Bs) (ye : List Bool) (w : World) (_ : Bytes w w.heap.size xD xd) (_ : Bytes w w.heap.size yD yd) (_ : Bools w w.heap.size xE xe) (_ : Bools w w.heap.size yE ye) (_ : xe.length ≤ 1048576) (_ : ye.length ≤ 1048576),
    Calls Tryd.prog 8 #[mvv xk xa xb xn xo xp xt xm xr xD xd.length xdc xE xe.length xec, mvv yk ya yb yn yo yp yt ym yr yD yd.length ydc yE ye.length yec] w fun e' w' => e' = .returned (.bool (Fm.same ⟨xk, xa, xb, xn, xo, xp, xt, xm, xr, xd, xe⟩ ⟨yk, ya, yb, yn, yo, yp, yt, ym, yr, yd, ye⟩)) ∧ Below w.heap.size w w'
abbrev LINER : Prop := ∀ (k a b n o p t mm r : Int) (xd xe : Option Addr) (dc ec : Nat) (d : Bs) (e : List Bool) (w : World) (_ : Bytes w w.heap.size xd d) (_ : Bools w w.heap.size xe e) (_ : d.length ≤ 1048576) (_ : e.length ≤ 1048576),
    Calls Tryd.prog 12 #[mvv k a b n o p t mm r xd d.length dc xe e.length ec] w fun e' w' => e' = .returned (.string (str (Fm.line ⟨k, a, b, n, o, p, t, mm, r, d, e⟩))) ∧ Below w.heap.size w w'
set_option maxRecDepth 100000 in
set_option maxHeartbeats 20000000 in
theorem farm_of (KN0 : KNOWN) (FW0 : FEW) (CPF0 : PARSE 6) (CPR0 : PARSE 7) (SM0 : SAMER) (CTF0 : TEXTF) (CTR0 : TEXTR) (CL0 : LINER)
    (s : Bs) (hs : s.length ≤ 1048576) (ms : List Mv) (A : Option Addr) (c : Nat) (w : World) (hE : Env w) (hM : Moves w w.heap.size A ms.length ms) (hl : ∀ m ∈ ms, m.d.length ≤ 1048576 ∧ m.e.length ≤ 1048576) (hn : ms.length ≤ 1048576) :
    Calls Tryd.prog 3 #[.string (str s), .slice A ms.length c] w fun e w' => e = .returned (.bool true) ∧ Below w.heap.size w w' := by
  have KN := Lib.hid (KN0 w hE)
  have FW := Lib.hid FW0
  have CPF := Lib.hid CPF0
  have CPR := Lib.hid CPR0
  have SM := Lib.hid SM0
  have CTF := Lib.hid CTF0
  have CTR := Lib.hid CTR0
  have CL := Lib.hid CL0
  have hsz : (str s).size = s.length := str_size s
  clear KN0 FW0 CPF0 CPR0 SM0 CTF0 CTR0 CL0
  obtain ⟨i0, hi, hz0, hz1, hz2⟩ := info_parts Tryd.info37
  go_enter Tryd.func3, Tryd.ntmps3
  go_wp2_with fail
  refine KN.out.mono ?_
  rintro e' w1 ⟨rfl, hb1⟩
  by_cases hsl : s.length ≤ 16384
  rotate_left
  · have h1 : ¬ (s.length : Int) ≤ 16384 := by omega
    have h2 : (16384 : Int) < (s.length : Int) := by omega
    go_wp2_with fail
    go_ret
    exact ⟨rfl, hb1⟩
  · have h1 : (s.length : Int) ≤ 16384 := by omega
    have h2 : ¬ (16384 : Int) < (s.length : Int) := by omega
    go_wp2_with fail
    refine (FW.out ms A c w1 (hM.below hb1 hb1.size) hl hn).mono ?_
    rintro e' w2 ⟨b, rfl, hfew, hb2'⟩
    have hb2 := hb1.trans (hb2'.mono hb1.size)
    clear h1 h2
    cases b with
    | false =>
      clear hfew
      go_wp2_with fail
      go_ret
      exact ⟨rfl, hb2⟩
    | true =>
      have HFEW := Lib.hid (hfew rfl)
      clear hfew
      go_wp2_with fail
      refine (CPF.out s (by omega) w2 (hE.below hb2)).mono ?_
      have HDE := Lib.hid (Fm.parse_de s)
      obtain ⟨pr, hpr⟩ : ∃ pr, Fm.parse s = pr := ⟨_, rfl⟩
      rw [hpr] at HDE ⊢
      rintro e' w3 ⟨A1, c1, rfl, hM1, hb3'⟩
      have hb3 := hb2.trans (hb3'.mono hb2.size)
      have CP4 := Lib.hid (CPR.out s (by omega) w3 (hE.below hb3))
      rw [hpr] at CP4
      obtain ⟨pl, pe⟩ := pr
      dsimp only at hM1 HDE
      clear hpr
      go_wp2_with fail
      refine CP4.out.mono ?_
      rintro e' w4 ⟨A2, c2, rfl, hM2, hb4'⟩
      have hb4 := hb3.trans (hb4'.mono hb3.size)
      dsimp only at hM2
      have hM1' := hM1.below hb4' hb4'.size
      have pb1 : (pe != pe) = false := by simp
      have pb2 : ((pl.length : Int) != (pl.length : Int)) = false := by simp
      have hpl := HDE.out.1
      go_wp2_with fail
      go_loopw [9] (fun i wr => ∃ k : Nat, k ≤ pl.length ∧ i = .int .i64 k ∧ Below w4.heap.size w4 wr)
        (fun i _ => pl.length - (intOf i).toNat)
      case atStart => exact ⟨0, Nat.zero_le _, rfl, Below.refl _ _⟩
      case round =>
        obtain ⟨k, hk, rfl, hb5⟩ := hrel
        by_cases hlt : k < pl.length
        · obtain ⟨ad, x, hA, hadb, hmem, hc⟩ := (hM1'.below hb5 hb5.size).at_ hlt
          obtain ⟨ad2, x2, hA2, hadb2, hmem2, hc2⟩ := (hM2.below hb5 hb5.size).at_ hlt
          obtain ⟨m, hm⟩ : ∃ m, pl[k] = m := ⟨_, rfl⟩
          obtain ⟨hmd, hme⟩ := HDE.out.2 m (by rw [← hm]; exact List.getElem_mem hlt)
          rw [hm] at hmem hc hmem2 hc2
          obtain ⟨mk, ma, mb, mn, mo, mp, mt, mm, mr, md, me⟩ := m
          subst hA
          subst hA2
          have hme' : me.length ≤ 1048576 := Nat.le_trans hme (by omega)
          clear hm hmd hme
          have ca0 : wr.cell? (ad.add (k * 11)) = some (.int .i64 mk) := hc 0 _ rfl
          have cb0 : wr.cell? (ad2.add (k * 11)) = some (.int .i64 mk) := hc2 0 _ rfl
          have ca1 := elem_at hc 1 (.int .i64 ma) (by omega) rfl
          have ca2 := elem_at hc 2 (.int .i64 mb) (by omega) rfl
          have ca3 := elem_at hc 3 (.int .i64 mn) (by omega) rfl
          have ca4 := elem_at hc 4 (.int .i64 mo) (by omega) rfl
          have ca5 := elem_at hc 5 (.int .i64 mp) (by omega) rfl
          have ca6 := elem_at hc 6 (.int .i64 mt) (by omega) rfl
          have ca7 := elem_at hc 7 (.int .i64 mm) (by omega) rfl
          have ca8 := elem_at hc 8 (.int .i64 mr) (by omega) rfl
          have ca9 := elem_at hc 9 (.slice x.d md.length x.dc) (by omega) rfl
          have ca10 := elem_at hc 10 (.slice x.e me.length x.ec) (by omega) rfl
          have cb1 := elem_at hc2 1 (.int .i64 ma) (by omega) rfl
          have cb2 := elem_at hc2 2 (.int .i64 mb) (by omega) rfl
          have cb3 := elem_at hc2 3 (.int .i64 mn) (by omega) rfl
          have cb4 := elem_at hc2 4 (.int .i64 mo) (by omega) rfl
          have cb5 := elem_at hc2 5 (.int .i64 mp) (by omega) rfl
          have cb6 := elem_at hc2 6 (.int .i64 mt) (by omega) rfl
          have cb7 := elem_at hc2 7 (.int .i64 mm) (by omega) rfl
          have cb8 := elem_at hc2 8 (.int .i64 mr) (by omega) rfl
          have cb9 := elem_at hc2 9 (.slice x2.d md.length x2.dc) (by omega) rfl
          have cb10 := elem_at hc2 10 (.slice x2.e me.length x2.ec) (by omega) rfl
          have ol1 : ((k : Int) < (pl.length : Int)) := by omega
          have OC := Lib.hid (of_any mk ma mb mn mo mp mt mm mr x.d x.e md.length x.dc me.length x.ec wr.drew)
          have SC : Hid (∀ W : World, Below wr.heap.size wr W → Calls Tryd.prog 8 #[mvv mk ma mb mn mo mp mt mm mr x.d md.length x.dc x.e me.length x.ec, mvv mk ma mb mn mo mp mt mm mr x2.d md.length x2.dc x2.e me.length x2.ec] W fun e' w' => e' = .returned (.bool true) ∧ Below W.heap.size W w') := Lib.hid (fun W hW => by
            have := SM.out mk ma mb mn mo mp mt mm mr x.d x.e x.dc x.ec md me mk ma mb mn mo mp mt mm mr x2.d x2.e x2.dc x2.ec md me W (hmem.below hW hW.size).d (hmem2.below hW hW.size).d (hmem.below hW hW.size).e (hmem2.below hW hW.size).e hme' hme'
            rw [Fm.same_self] at this
            exact this)
          have hbd : Below wr.heap.size wr wr.drew := (Below.refl _ wr).drew
          go_wp2_with fail
          go_region_with (first
            | (refine OC.out.mono ?_; rintro e' w5 ⟨rfl, hb6'⟩; have hb6 : Below wr.heap.size wr w5 := hbd.trans (hb6'.mono hbd.size); have hc2 : ∀ (j : Nat) (u : Value), (cells ⟨mk, ma, mb, mn, mo, mp, mt, mm, mr, md, me⟩ x2)[j]? = some u → w5.cell? (ad2.add (k * 11 + j)) = some u := (fun j u h => (hb6.cell (by rw [add_block]; exact hadb2)).trans (hc2 j u h)); have cb0 : w5.cell? (ad2.add (k * 11)) = some (.int .i64 mk) := hc2 0 _ rfl; have cb1 := elem_at hc2 1 (.int .i64 ma) (by omega) rfl; have cb2 := elem_at hc2 2 (.int .i64 mb) (by omega) rfl; have cb3 := elem_at hc2 3 (.int .i64 mn) (by omega) rfl; have cb4 := elem_at hc2 4 (.int .i64 mo) (by omega) rfl; have cb5 := elem_at hc2 5 (.int .i64 mp) (by omega) rfl; have cb6 := elem_at hc2 6 (.int .i64 mt) (by omega) rfl; have cb7 := elem_at hc2 7 (.int .i64 mm) (by omega) rfl; have cb8 := elem_at hc2 8 (.int .i64 mr) (by omega) rfl; have cb9 := elem_at hc2 9 (.slice x2.d md.length x2.dc) (by omega) rfl; have cb10 := elem_at hc2 10 (.slice x2.e me.length x2.ec) (by omega) rfl; clear hc2 hb6')
            | (refine (SC.out _ hb6).mono ?_; rintro e' w6 ⟨rfl, hb7'⟩; have hb7 := hb5.trans ((hb6.trans (hb7'.mono hb6.size)).mono hb5.size); clear hb7'))
          all_goals
            go_wp2_with fail
            go_roundw
            case rel => exact ⟨k + 1, by omega, by go_num, hb7⟩
            case measure => simp [intOf]; omega
        · obtain rfl : k = pl.length := by omega
          have hb5w := hb4.trans (hb5.mono hb4.size)
          clear hM1' hM2 hM1 hb5 hb4' hb4
          go_wp2_with fail
          go_loopw [10, 11] (fun v i wx => ∃ (k : Nat) (g : Option Addr) (cp : Nat), k ≤ ms.length ∧ i = .int .i64 k ∧ v = .slice g k cp ∧ MvRow wx w.heap.size 37 (.slice g k cp) (ms.take k) ∧ Below w.heap.size w wx)
            (fun _ i _ => ms.length - (intOf i).toNat)
          case atStart => exact ⟨0, none, 0, Nat.zero_le _, rfl, rfl, MvRow.nil _ _ _, hb5w⟩
          case round =>
            obtain ⟨k, g, cp, hk2, rfl, rfl, hrow, hb6⟩ := hrel
            have HROW := Lib.hid hrow
            clear hrow
            by_cases hlt : k < ms.length
            · obtain ⟨ad, x, hA, hadb, hmem, hc0⟩ := hM.at_ hlt
              obtain ⟨m, hm⟩ : ∃ m, ms[k] = m := ⟨_, rfl⟩
              have HTK := Lib.hid (show ms.take (k + 1) = ms.take k ++ [m] from by rw [List.take_succ_eq_append_getElem hlt, hm])
              rw [hm] at hmem hc0
              obtain ⟨mk, ma, mb, mn, mo, mp, mt, mm, mr, md, me⟩ := m
              subst hA
              clear hm
              have hc : ∀ (j : Nat) (u : Value), (cells ⟨mk, ma, mb, mn, mo, mp, mt, mm, mr, md, me⟩ x)[j]? = some u → wr.cell? (ad.add (k * 11 + j)) = some u := fun j u h => (hb6.cell (by rw [add_block]; exact hadb)).trans (hc0 j u h)
              have ca0 : wr.cell? (ad.add (k * 11)) = some (.int .i64 mk) := hc 0 _ rfl
              have ca1 := elem_at hc 1 (.int .i64 ma) (by omega) rfl
              have ca2 := elem_at hc 2 (.int .i64 mb) (by omega) rfl
              have ca3 := elem_at hc 3 (.int .i64 mn) (by omega) rfl
              have ca4 := elem_at hc 4 (.int .i64 mo) (by omega) rfl
              have ca5 := elem_at hc 5 (.int .i64 mp) (by omega) rfl
              have ca6 := elem_at hc 6 (.int .i64 mt) (by omega) rfl
              have ca7 := elem_at hc 7 (.int .i64 mm) (by omega) rfl
              have ca8 := elem_at hc 8 (.int .i64 mr) (by omega) rfl
              have ca9 := elem_at hc 9 (.slice x.d md.length x.dc) (by omega) rfl
              have ca10 := elem_at hc 10 (.slice x.e me.length x.ec) (by omega) rfl
              go_wp2_with fail
              refine (of_any mk ma mb mn mo mp mt mm mr x.d x.e md.length x.dc me.length x.ec wr).mono ?_
              rintro e' w5 ⟨rfl, hb7'⟩
              have hb7 := hb6.trans (hb7'.mono hb6.size)
              have hlen : (ms.take k).length = k := by rw [List.length_take]; omega
              have hb8 : Below w5.heap.size w5 (w5.alloc (.cells #[.int .i64 mk, .int .i64 ma, .int .i64 mb, .int .i64 mn, .int .i64 mo, .int .i64 mp, .int .i64 mt, .int .i64 mm, .int .i64 mr, .slice x.d md.length x.dc, .slice x.e me.length x.ec] 37)) := (Below.refl _ _).alloc (Nat.le_refl _) _
              obtain ⟨xs, hx1, hx2, hx3⟩ := (HROW.out.kept (Below.grown0 hb7')).kept (Below.grown0 hb8)
              have hbw := hb7.trans (hb8.mono hb7.size)
              have hbase : ∀ j, (Value.slice g k cp).ownBlock = some j → w.heap.size ≤ j := fun j hj => (hx2.lt j hj).1
              have HMD := Lib.hid (show Mem _ _ ⟨mk, ma, mb, mn, mo, mp, mt, mm, mr, md, me⟩ x from hmem.below hbw hbw.size)
              have HO1 : Hid (Off (.slice g k cp) md.length x.d) := Lib.hid (fun h0 ad e h => by obtain ⟨ad', e', hlt', _⟩ := hmem.d.2 h0; rw [e] at e'; injection e' with e'; subst e'; have := hbase _ h.symm; omega)
              have HO2 : Hid (Off (.slice g k cp) me.length x.e) := Lib.hid (fun h0 ad e h => by obtain ⟨ad', e', hlt', _⟩ := hmem.e.2 h0; rw [e] at e'; injection e' with e'; subst e'; have := hbase _ h.symm; omega)
              have HX1 := Lib.hid hx1
              have HX3 := Lib.hid hx3
              rw [hlen] at hx2
              have HLEN := Lib.hid hlen
              clear ca0 ca1 ca2 ca3 ca4 ca5 ca6 ca7 ca8 ca9 ca10 hc hc0 hx1 hx3 hlen hbase
              have hsz0 := hbw.size
              have h300 := HFEW.out.1
              go_wp2_with (at_builtin; go_must (refine wpList_append_lies _ rfl _ _ 28 rfl w.heap.size 37 i0 (.agg #[.int .i64 0, .int .i64 0, .int .i64 0, .int .i64 0, .int .i64 0, .int .i64 0, .int .i64 0, .int .i64 0, .int .i64 0, .slice none 0 0, .slice none 0 0]) 11 120 Tryd.underlying28 hi hz0 hz1 hz2 rfl (by decide) _ _ _ rfl hx2 ⟨w5.heap.size, 0, none⟩ 1 1 (cells ⟨mk, ma, mb, mn, mo, mp, mt, mm, mr, md, me⟩ x) rfl rfl (World.news_of_block (blk_new w5 _)) (cells_one _ _) (by decide) (by unfold maxLen; omega) (by omega) (by simpa using hsz0) _ rfl ?_))
              intro g1 cap w6 hown' hgrow hat1 _
              have HPU := Lib.hid (MvRow.push HX1.out HX3.out HMD.out HO1.out HO2.out (by rw [HLEN.out]; exact hown') hgrow (by simpa using hat1))
              rw [← HTK.out, show (ms.take (k + 1)).length = k + 1 from by rw [List.length_take]; omega] at HPU
              have hb1 : Below w.heap.size w w6 := hbw.grown hgrow hbw.size (fun i hi => (hx2.lt i hi).1)
              clear hown' hgrow hat1
              go_wp2
              go_roundw
              case rel => exact ⟨k + 1, _, _, by omega, by go_num, rfl, HPU.out, hb1⟩
              case measure => simp [intOf]; omega
            · obtain rfl : k = ms.length := by omega
              rw [List.take_of_length_le (Nat.le_refl _)] at HROW
              have h300 := HFEW.out.1
              go_wp2_with fail
              refine (CTF.out ms A c wr (hE.below hb6) (hM.below hb6 hb6.size) hl (by omega)).mono ?_
              have HPT := Lib.hid (Fm.parse_text ms (by omega))
              have htl := Fm.text_len2 ms
              have htt := HFEW.out.2
              unfold total at htt
              have htx : (Fm.text ms).length ≤ 1048575 := by omega
              clear htl htt
              obtain ⟨tx, htx0⟩ : ∃ tx, Fm.text ms = tx := ⟨_, rfl⟩
              have CT2 := Lib.hid (CTR.out ms)
              rw [htx0] at HPT htx CT2 ⊢
              clear htx0
              rintro e' w5 ⟨rfl, hb7'⟩
              have hb7 := hb6.trans (hb7'.mono hb6.size)
              have hrow5 := HROW.out.kept (Below.grown0 hb7')
              go_wp2_with fail
              refine (CT2.out g cp w5 hrow5.moves hl (by omega)).mono ?_
              rintro e' w6 ⟨rfl, hb8'⟩
              have hb8 := hb7.trans (hb8'.mono hb7.size)
              have hrow6 := hrow5.moves.below hb8' hb8'.size
              have e1 : ((str tx).toList == (str tx).toList) = true := by simp
              have e2 : ((str tx).toList != (str tx).toList) = false := by simp
              clear HROW hrow5 hb7' hb6 hb7
              go_wp2_with fail
              refine (CPF.out tx htx w6 (hE.below hb8)).mono ?_
              rw [HPT.out]
              rintro e' w7 ⟨A3, c3, rfl, hM3, hb9'⟩
              have hb9 := hb8.trans (hb9'.mono hb8.size)
              have hrow7 := hrow6.below hb9' hb9'.size
              obtain ⟨p, hp⟩ : ∃ p : Mv → Bool, (fun m => decide (Fm.line m ≠ [])) = p := ⟨_, rfl⟩
              rw [hp] at hM3 ⊢
              have HFL := Lib.hid (flt_at p ms)
              have HP : Hid (∀ m, p m = decide (Fm.line m ≠ [])) := Lib.hid (fun m => by rw [← hp])
              obtain ⟨fl, hfl⟩ : ∃ fl, ms.filter p = fl := ⟨_, rfl⟩
              dsimp only at hM3
              rw [hfl] at hM3 HFL ⊢
              have hfll : fl.length ≤ ms.length := by rw [← hfl]; exact List.length_filter_le _ _
              have HFE := Lib.hid hfl
              clear hp hfl hrow6 hb8' hb9' hb8 HPT CT2 e1 e2
              have hlm := hl
              go_wp2_with fail
              go_loopw [14, 15] (fun n i wx => ∃ (k nn : Nat), k ≤ ms.length ∧ i = .int .i64 k ∧ n = .int .i64 nn ∧ nn = ((ms.take k).filter p).length ∧ Below w7.heap.size w7 wx)
                (fun _ i _ => ms.length - (intOf i).toNat)
              case atStart => exact ⟨0, 0, Nat.zero_le _, rfl, rfl, rfl, Below.refl _ _⟩
              case round =>
                obtain ⟨k, nn, hk3, rfl, rfl, hnn, hb10⟩ := hrel
                have HNN := Lib.hid hnn
                have hnl : nn ≤ 4096 := by
                  have h1 := List.length_filter_le p (ms.take k)
                  rw [List.length_take] at h1
                  omega
                clear hnn
                by_cases hlt : k < ms.length
                · obtain ⟨ad, x, hA, hadb, hmem, hc⟩ := (hrow7.below hb10 hb10.size).at_ hlt
                  obtain ⟨hF1, hF2⟩ := HFL.out k hlt
                  rw [← HNN.out] at hF1 hF2
                  obtain ⟨m, hm⟩ : ∃ m, ms[k] = m := ⟨_, rfl⟩
                  obtain ⟨hmd, hme⟩ := hl m (by rw [← hm]; exact List.getElem_mem hlt)
                  rw [hm] at hmem hc hF1 hF2
                  have HF1 := Lib.hid hF1
                  have HF2 := Lib.hid hF2
                  have HPM := Lib.hid (HP.out m)
                  obtain ⟨mk, ma, mb, mn, mo, mp, mt, mm, mr, md, me⟩ := m
                  subst hA
                  have hmd' : md.length ≤ 1048576 := hmd
                  have hme' : me.length ≤ 1048576 := hme
                  clear hm hmd hme hF1 hF2
                  have ca0 : wr.cell? (ad.add (k * 11)) = some (.int .i64 mk) := hc 0 _ rfl
                  have ca1 := elem_at hc 1 (.int .i64 ma) (by omega) rfl
                  have ca2 := elem_at hc 2 (.int .i64 mb) (by omega) rfl
                  have ca3 := elem_at hc 3 (.int .i64 mn) (by omega) rfl
                  have ca4 := elem_at hc 4 (.int .i64 mo) (by omega) rfl
                  have ca5 := elem_at hc 5 (.int .i64 mp) (by omega) rfl
                  have ca6 := elem_at hc 6 (.int .i64 mt) (by omega) rfl
                  have ca7 := elem_at hc 7 (.int .i64 mm) (by omega) rfl
                  have ca8 := elem_at hc 8 (.int .i64 mr) (by omega) rfl
                  have ca9 := elem_at hc 9 (.slice x.d md.length x.dc) (by omega) rfl
                  have ca10 := elem_at hc 10 (.slice x.e me.length x.ec) (by omega) rfl
                  have hka : ((k : Int) < (ms.length : Int)) := by omega
                  have CLL := Lib.hid (CL.out mk ma mb mn mo mp mt mm mr x.d x.e x.dc x.ec md me wr hmem.d hmem.e hmd' hme')
                  go_wp2_with fail
                  refine CLL.out.mono ?_
                  rintro e' w8 ⟨rfl, hb11'⟩
                  have hb11 := hb10.trans (hb11'.mono hb10.size)
                  clear CLL ca0 ca1 ca2 ca3 ca4 ca5 ca6 ca7 ca8 ca9 ca10
                  obtain ⟨ln, hln⟩ : ∃ ln, Fm.line ⟨mk, ma, mb, mn, mo, mp, mt, mm, mr, md, me⟩ = ln := ⟨_, rfl⟩
                  rw [hln] at HPM ⊢
                  clear hln
                  by_cases h0 : ln = []
                  · have e1 : ((str ln).toList == []) = true := by rw [str_toList, h0]; rfl
                    have HN2 : Hid (nn = ((ms.take (k + 1)).filter p).length) := Lib.hid (by rw [HF2.out (by rw [HPM.out, h0]; rfl)])
                    clear h0
                    go_wp2_with fail
                    go_roundw
                    case rel => exact ⟨k + 1, nn, by omega, by go_num, rfl, HN2.out, hb11⟩
                    case measure => simp [intOf]; omega
                  · have e1 : ((str ln).toList == []) = false := by rw [str_toList]; cases ln <;> simp at h0 ⊢
                    obtain ⟨hat, hcn⟩ := HF1.out (by rw [HPM.out]; exact decide_eq_true h0)
                    have HN2 : Hid (nn + 1 = ((ms.take (k + 1)).filter p).length) := Lib.hid hcn.symm
                    have hnlt : nn < fl.length := by
                      rcases Nat.lt_or_ge nn fl.length with h | h
                      · exact h
                      · rw [List.getElem?_eq_none h] at hat; cases hat
                    have hc' : ∀ (j : Nat) (u : Value), (cells ⟨mk, ma, mb, mn, mo, mp, mt, mm, mr, md, me⟩ x)[j]? = some u → w8.cell? (ad.add (k * 11 + j)) = some u := fun j u h => (hb11'.cell (by rw [add_block]; exact hadb)).trans (hc j u h)
                    have hadb' : ad.block < w8.heap.size := Nat.lt_of_lt_of_le hadb hb11'.size
                    have hmem' := hmem.below hb11' hb11'.size
                    clear hc hadb hmem hcn h0
                    obtain ⟨ad3, x3, hA3, hadb3, hmem3, hc3⟩ := (hM3.below hb11 hb11.size).at_ hnlt
                    have hfe : fl[nn] = ⟨mk, ma, mb, mn, mo, mp, mt, mm, mr, md, me⟩ := by
                      rw [List.getElem?_eq_getElem hnlt] at hat
                      exact Option.some.inj hat
                    rw [hfe] at hmem3 hc3
                    subst hA3
                    clear hfe hat
                    have hc := hc'
                    clear hc'
                    have cb0 : w8.cell? (ad.add (k * 11)) = some (.int .i64 mk) := hc 0 _ rfl
                    have cb1 := elem_at hc 1 (.int .i64 ma) (by omega) rfl
                    have cb2 := elem_at hc 2 (.int .i64 mb) (by omega) rfl
                    have cb3 := elem_at hc 3 (.int .i64 mn) (by omega) rfl
                    have cb4 := elem_at hc 4 (.int .i64 mo) (by omega) rfl
                    have cb5 := elem_at hc 5 (.int .i64 mp) (by omega) rfl
                    have cb6 := elem_at hc 6 (.int .i64 mt) (by omega) rfl
                    have cb7 := elem_at hc 7 (.int .i64 mm) (by omega) rfl
                    have cb8 := elem_at hc 8 (.int .i64 mr) (by omega) rfl
                    have cb9 := elem_at hc 9 (.slice x.d md.length x.dc) (by omega) rfl
                    have cb10 := elem_at hc 10 (.slice x.e me.length x.ec) (by omega) rfl
                    have cc0 : w8.cell? (ad3.add (nn * 11)) = some (.int .i64 mk) := hc3 0 _ rfl
                    have cc1 := elem_at hc3 1 (.int .i64 ma) (by omega) rfl
                    have cc2 := elem_at hc3 2 (.int .i64 mb) (by omega) rfl
                    have cc3 := elem_at hc3 3 (.int .i64 mn) (by omega) rfl
                    have cc4 := elem_at hc3 4 (.int .i64 mo) (by omega) rfl
                    have cc5 := elem_at hc3 5 (.int .i64 mp) (by omega) rfl
                    have cc6 := elem_at hc3 6 (.int .i64 mt) (by omega) rfl
                    have cc7 := elem_at hc3 7 (.int .i64 mm) (by omega) rfl
                    have cc8 := elem_at hc3 8 (.int .i64 mr) (by omega) rfl
                    have cc9 := elem_at hc3 9 (.slice x3.d md.length x3.dc) (by omega) rfl
                    have cc10 := elem_at hc3 10 (.slice x3.e me.length x3.ec) (by omega) rfl
                    have hnb : ((nn : Int) < (fl.length : Int)) := by omega
                    have hnc : decide (fl.length ≤ nn) = false := by rw [decide_eq_false_iff_not]; omega
                    have hbd : Below w8.heap.size w8 w8.drew := (Below.refl _ w8).drew
                    have OC := Lib.hid (of_any mk ma mb mn mo mp mt mm mr x3.d x3.e md.length x3.dc me.length x3.ec w8.drew)
                    have SC : Hid (∀ W : World, Below w8.heap.size w8 W → Calls Tryd.prog 8 #[mvv mk ma mb mn mo mp mt mm mr x3.d md.length x3.dc x3.e me.length x3.ec, mvv mk ma mb mn mo mp mt mm mr x.d md.length x.dc x.e me.length x.ec] W fun e' w' => e' = .returned (.bool true) ∧ Below W.heap.size W w') := Lib.hid (fun W hW => by
                      have := SM.out mk ma mb mn mo mp mt mm mr x3.d x3.e x3.dc x3.ec md me mk ma mb mn mo mp mt mm mr x.d x.e x.dc x.ec md me W (hmem3.below hW hW.size).d (hmem'.below hW hW.size).d (hmem3.below hW hW.size).e (hmem'.below hW hW.size).e hme' hme'
                      rw [Fm.same_self] at this
                      exact this)
                    have hadb3' := hadb3
                    clear hadb3 KN FW CPF CPR SM CTF CTR CL hsz hE hM hl hn hi hz0 hz1 hz2 HFEW HFL HP HFE hlm HF1 HF2 HPM HNN hmem3 hmem' hrow7 hM3 HDE hnl hmd' hme' htx
                    have hcx : ∀ W : World, Below w8.heap.size w8 W → ∀ (j : Nat) (u : Value), (cells ⟨mk, ma, mb, mn, mo, mp, mt, mm, mr, md, me⟩ x)[j]? = some u → W.cell? (ad.add (k * 11 + j)) = some u := fun W hW j u h => (hW.cell (by rw [add_block]; exact hadb')).trans (hc j u h)
                    have hcy : ∀ W : World, Below w8.heap.size w8 W → ∀ (j : Nat) (u : Value), (cells ⟨mk, ma, mb, mn, mo, mp, mt, mm, mr, md, me⟩ x3)[j]? = some u → W.cell? (ad3.add (nn * 11 + j)) = some u := fun W hW j u h => (hW.cell (by rw [add_block]; exact hadb3')).trans (hc3 j u h)
                    have SX : Hid (∀ W : World, Below w8.heap.size w8 W → Below w8.heap.size w8 W ∧ W.cell? (ad.add (k * 11)) = some (.int .i64 mk) ∧ W.cell? ⟨(ad.add (k * 11)).block, (ad.add (k * 11)).off + 1, none⟩ = some (.int .i64 ma) ∧ W.cell? ⟨(ad.add (k * 11)).block, (ad.add (k * 11)).off + 2, none⟩ = some (.int .i64 mb) ∧ W.cell? ⟨(ad.add (k * 11)).block, (ad.add (k * 11)).off + 3, none⟩ = some (.int .i64 mn) ∧ W.cell? ⟨(ad.add (k * 11)).block, (ad.add (k * 11)).off + 4, none⟩ = some (.int .i64 mo) ∧ W.cell? ⟨(ad.add (k * 11)).block, (ad.add (k * 11)).off + 5, none⟩ = some (.int .i64 mp) ∧ W.cell? ⟨(ad.add (k * 11)).block, (ad.add (k * 11)).off + 6, none⟩ = some (.int .i64 mt) ∧ W.cell? ⟨(ad.add (k * 11)).block, (ad.add (k * 11)).off + 7, none⟩ = some (.int .i64 mm) ∧ W.cell? ⟨(ad.add (k * 11)).block, (ad.add (k * 11)).off + 8, none⟩ = some (.int .i64 mr) ∧ W.cell? ⟨(ad.add (k * 11)).block, (ad.add (k * 11)).off + 9, none⟩ = some (.slice x.d md.length x.dc) ∧ W.cell? ⟨(ad.add (k * 11)).block, (ad.add (k * 11)).off + 10, none⟩ = some (.slice x.e me.length x.ec) ∧ W.cell? (ad3.add (nn * 11)) = some (.int .i64 mk) ∧ W.cell? ⟨(ad3.add (nn * 11)).block, (ad3.add (nn * 11)).off + 1, none⟩ = some (.int .i64 ma) ∧ W.cell? ⟨(ad3.add (nn * 11)).block, (ad3.add (nn * 11)).off + 2, none⟩ = some (.int .i64 mb) ∧ W.cell? ⟨(ad3.add (nn * 11)).block, (ad3.add (nn * 11)).off + 3, none⟩ = some (.int .i64 mn) ∧ W.cell? ⟨(ad3.add (nn * 11)).block, (ad3.add (nn * 11)).off + 4, none⟩ = some (.int .i64 mo) ∧ W.cell? ⟨(ad3.add (nn * 11)).block, (ad3.add (nn * 11)).off + 5, none⟩ = some (.int .i64 mp) ∧ W.cell? ⟨(ad3.add (nn * 11)).block, (ad3.add (nn * 11)).off + 6, none⟩ = some (.int .i64 mt) ∧ W.cell? ⟨(ad3.add (nn * 11)).block, (ad3.add (nn * 11)).off + 7, none⟩ = some (.int .i64 mm) ∧ W.cell? ⟨(ad3.add (nn * 11)).block, (ad3.add (nn * 11)).off + 8, none⟩ = some (.int .i64 mr) ∧ W.cell? ⟨(ad3.add (nn * 11)).block, (ad3.add (nn * 11)).off + 9, none⟩ = some (.slice x3.d md.length x3.dc) ∧ W.cell? ⟨(ad3.add (nn * 11)).block, (ad3.add (nn * 11)).off + 10, none⟩ = some (.slice x3.e me.length x3.ec)) := Lib.hid (fun W hW => ⟨hW, hcx W hW 0 _ rfl, elem_at (hcx W hW) 1 (.int .i64 ma) (by omega) rfl, elem_at (hcx W hW) 2 (.int .i64 mb) (by omega) rfl, elem_at (hcx W hW) 3 (.int .i64 mn) (by omega) rfl, elem_at (hcx W hW) 4 (.int .i64 mo) (by omega) rfl, elem_at (hcx W hW) 5 (.int .i64 mp) (by omega) rfl, elem_at (hcx W hW) 6 (.int .i64 mt) (by omega) rfl, elem_at (hcx W hW) 7 (.int .i64 mm) (by omega) rfl, elem_at (hcx W hW) 8 (.int .i64 mr) (by omega) rfl, elem_at (hcx W hW) 9 (.slice x.d md.length x.dc) (by omega) rfl, elem_at (hcx W hW) 10 (.slice x.e me.length x.ec) (by omega) rfl, hcy W hW 0 _ rfl, elem_at (hcy W hW) 1 (.int .i64 ma) (by omega) rfl, elem_at (hcy W hW) 2 (.int .i64 mb) (by omega) rfl, elem_at (hcy W hW) 3 (.int .i64 mn) (by omega) rfl, elem_at (hcy W hW) 4 (.int .i64 mo) (by omega) rfl, elem_at (hcy W hW) 5 (.int .i64 mp) (by omega) rfl, elem_at (hcy W hW) 6 (.int .i64 mt) (by omega) rfl, elem_at (hcy W hW) 7 (.int .i64 mm) (by omega) rfl, elem_at (hcy W hW) 8 (.int .i64 mr) (by omega) rfl, elem_at (hcy W hW) 9 (.slice x3.d md.length x3.dc) (by omega) rfl, elem_at (hcy W hW) 10 (.slice x3.e me.length x3.ec) (by omega) rfl⟩)
                    clear hcx hcy hc hc3 cb0 cc0 cb1 cc1 cb2 cc2 cb3 cc3 cb4 cc4 cb5 cc5 cb6 cc6 cb7 cc7 cb8 cc8 cb9 cc9 cb10 cc10
                    go_wp2_with fail
                    go_region_held3 (fun W => Below w8.heap.size w8 W ∧ W.cell? (ad.add (k * 11)) = some (.int .i64 mk) ∧ W.cell? ⟨(ad.add (k * 11)).block, (ad.add (k * 11)).off + 1, none⟩ = some (.int .i64 ma) ∧ W.cell? ⟨(ad.add (k * 11)).block, (ad.add (k * 11)).off + 2, none⟩ = some (.int .i64 mb) ∧ W.cell? ⟨(ad.add (k * 11)).block, (ad.add (k * 11)).off + 3, none⟩ = some (.int .i64 mn) ∧ W.cell? ⟨(ad.add (k * 11)).block, (ad.add (k * 11)).off + 4, none⟩ = some (.int .i64 mo) ∧ W.cell? ⟨(ad.add (k * 11)).block, (ad.add (k * 11)).off + 5, none⟩ = some (.int .i64 mp) ∧ W.cell? ⟨(ad.add (k * 11)).block, (ad.add (k * 11)).off + 6, none⟩ = some (.int .i64 mt) ∧ W.cell? ⟨(ad.add (k * 11)).block, (ad.add (k * 11)).off + 7, none⟩ = some (.int .i64 mm) ∧ W.cell? ⟨(ad.add (k * 11)).block, (ad.add (k * 11)).off + 8, none⟩ = some (.int .i64 mr) ∧ W.cell? ⟨(ad.add (k * 11)).block, (ad.add (k * 11)).off + 9, none⟩ = some (.slice x.d md.length x.dc) ∧ W.cell? ⟨(ad.add (k * 11)).block, (ad.add (k * 11)).off + 10, none⟩ = some (.slice x.e me.length x.ec) ∧ W.cell? (ad3.add (nn * 11)) = some (.int .i64 mk) ∧ W.cell? ⟨(ad3.add (nn * 11)).block, (ad3.add (nn * 11)).off + 1, none⟩ = some (.int .i64 ma) ∧ W.cell? ⟨(ad3.add (nn * 11)).block, (ad3.add (nn * 11)).off + 2, none⟩ = some (.int .i64 mb) ∧ W.cell? ⟨(ad3.add (nn * 11)).block, (ad3.add (nn * 11)).off + 3, none⟩ = some (.int .i64 mn) ∧ W.cell? ⟨(ad3.add (nn * 11)).block, (ad3.add (nn * 11)).off + 4, none⟩ = some (.int .i64 mo) ∧ W.cell? ⟨(ad3.add (nn * 11)).block, (ad3.add (nn * 11)).off + 5, none⟩ = some (.int .i64 mp) ∧ W.cell? ⟨(ad3.add (nn * 11)).block, (ad3.add (nn * 11)).off + 6, none⟩ = some (.int .i64 mt) ∧ W.cell? ⟨(ad3.add (nn * 11)).block, (ad3.add (nn * 11)).off + 7, none⟩ = some (.int .i64 mm) ∧ W.cell? ⟨(ad3.add (nn * 11)).block, (ad3.add (nn * 11)).off + 8, none⟩ = some (.int .i64 mr) ∧ W.cell? ⟨(ad3.add (nn * 11)).block, (ad3.add (nn * 11)).off + 9, none⟩ = some (.slice x3.d md.length x3.dc) ∧ W.cell? ⟨(ad3.add (nn * 11)).block, (ad3.add (nn * 11)).off + 10, none⟩ = some (.slice x3.e me.length x3.ec)) (first | exact SX.out _ hbd | exact SX.out _ hb12 | exact SX.out _ hb12b) (first
                      | (go_at_call 9; refine OC.out.mono ?_; rintro e' w9 ⟨rfl, hb12'⟩; have hb12 : Below w8.heap.size w8 w9 := hbd.trans (hb12'.mono hbd.size); clear hb12')
                      | (go_at_call 8; refine (SC.out _ hb12).mono ?_; rintro e' w10 ⟨rfl, hb13'⟩; have hb12b := hb12.trans (hb13'.mono hb12.size); have hb13 := hb11.trans (hb12b.mono hb11.size); clear hb13'))
                    all_goals
                      go_wp2_with fail
                      go_roundw
                      case rel => exact ⟨k + 1, nn + 1, by omega, by go_num, by go_num, HN2.out, hb13⟩
                      case measure => simp [intOf]; omega
                · obtain rfl : k = ms.length := by omega
                  have hnf : nn = fl.length := by rw [HNN.out, List.take_of_length_le (Nat.le_refl _), HFE.out]
                  subst hnf
                  go_wp2_with fail
                  go_ret
                  exact ⟨rfl, hb9.trans (hb10.mono hb9.size)⟩

theorem farm_any (s : Bs) (hs : s.length ≤ 1048576) (ms : List Mv) (A : Option Addr) (c : Nat) (w : World) (hE : Env w) (hM : Moves w w.heap.size A ms.length ms) (hl : ∀ m ∈ ms, m.d.length ≤ 1048576 ∧ m.e.length ≤ 1048576) (hn : ms.length ≤ 1048576) :
    Calls Tryd.prog 3 #[.string (str s), .slice A ms.length c] w fun e w' => e = .returned (.bool true) ∧ Below w.heap.size w w' :=
  farm_of (fun w h => known_of (fun s hs w hw => parseF_any s hs w hw) textF_any w h) few_any (fun s hs w hw => parseF_any s hs w hw) (fun s hs w _ => parseR_any s hs w) sameR_any textF_any textR_any lineT_any s hs ms A c w hE hM hl hn
#print axioms farm_any
end Go.Proofs.YtjcbfbdbgplakaaDoor
