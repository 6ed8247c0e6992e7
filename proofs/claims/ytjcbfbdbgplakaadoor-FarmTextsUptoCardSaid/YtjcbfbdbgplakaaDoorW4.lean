/-
  WALK: same of the program (by a program of this proof's own).
-/
import Derived.Deep.DeepCutAuto
import Derived.RegionTactic
import Derived.BigRegion
import Derived.Test.YtjcbfbdbgplakaaDoorW3b
namespace Go.Proofs.YtjcbfbdbgplakaaDoor
open Go.RowKit
open Fm (Bs Mv)
set_option maxRecDepth 100000 in
set_option maxHeartbeats 4000000 in
theorem sameF_any (xk xa xb xn xo xp xt xm xr : Int) (xD xE : Option Addr) (xdc xec : Nat) (xd : Bs) (xe : List Bool) (yk ya yb yn yo yp yt ym yr : Int) (yD yE : Option Addr) (ydc yec : Nat) (yd : Bs) (ye : List Bool) (w : World) (hx : Bytes w w.heap.size xD xd) (hy : Bytes w w.heap.size yD yd) (gx : Bools w w.heap.size xE xe) (gy : Bools w w.heap.size yE ye) (lx : xd.length ≤ 1048576) (ly : yd.length ≤ 1048576) (mx : xe.length ≤ 1048576) (my : ye.length ≤ 1048576) :
    Calls Tryd.prog 38 #[.agg #[.int .i64 xk, .int .i64 xa, .int .i64 xb, .int .i64 xn, .int .i64 xo, .int .i64 xp, .int .i64 xt, .int .i64 xm, .int .i64 xr, .slice xD xd.length xdc, .slice xE xe.length xec], .agg #[.int .i64 yk, .int .i64 ya, .int .i64 yb, .int .i64 yn, .int .i64 yo, .int .i64 yp, .int .i64 yt, .int .i64 ym, .int .i64 yr, .slice yD yd.length ydc, .slice yE ye.length yec]] w fun e' w' => e' = .returned (.bool (Fm.same ⟨xk, xa, xb, xn, xo, xp, xt, xm, xr, xd, xe⟩ ⟨yk, ya, yb, yn, yo, yp, yt, ym, yr, yd, ye⟩)) ∧ Below w.heap.size w w' := by
  have CE := Lib.hid equal53_any
  have CF := Lib.hid equal54_any
  go_enter Tryd.func38, Tryd.ntmps38
  go_wp2_with fail
  go_cut [5, 6] (fun p5 p6 wx => ∃ B5 B6 : Nat, p5 = .pointer (some ⟨B5, 0, none⟩) ∧ p6 = .pointer (some ⟨B6, 0, none⟩) ∧ Below w.heap.size w wx ∧ wx.cell? ⟨B5, 0, none⟩ = some (.int .i64 xo) ∧ wx.cell? ⟨B5, 1, none⟩ = some (.int .i64 xp) ∧ wx.cell? ⟨B5, 2, none⟩ = some (.int .i64 xt) ∧ wx.cell? ⟨B5, 3, none⟩ = some (.int .i64 xm) ∧ wx.cell? ⟨B5, 4, none⟩ = some (.int .i64 xr) ∧ wx.cell? ⟨B5, 5, none⟩ = some (.slice xD xd.length xdc) ∧ wx.cell? ⟨B6, 0, none⟩ = some (.int .i64 yo) ∧ wx.cell? ⟨B6, 1, none⟩ = some (.int .i64 yp) ∧ wx.cell? ⟨B6, 2, none⟩ = some (.int .i64 yt) ∧ wx.cell? ⟨B6, 3, none⟩ = some (.int .i64 ym) ∧ wx.cell? ⟨B6, 4, none⟩ = some (.int .i64 yr) ∧ wx.cell? ⟨B6, 5, none⟩ = some (.slice yD yd.length ydc) ∧ wx.cell? ⟨w.heap.size, 0, none⟩ = some (.int .i64 xk) ∧ wx.cell? ⟨w.heap.size, 1, none⟩ = some (.int .i64 xa) ∧ wx.cell? ⟨w.heap.size, 2, none⟩ = some (.int .i64 xb) ∧ wx.cell? ⟨w.heap.size, 3, none⟩ = some (.int .i64 xn) ∧ wx.cell? ⟨w.heap.size, 10, none⟩ = some (.slice xE xe.length xec) ∧ wx.cell? ⟨w.heap.size + 1, 0, none⟩ = some (.int .i64 yk) ∧ wx.cell? ⟨w.heap.size + 1, 1, none⟩ = some (.int .i64 ya) ∧ wx.cell? ⟨w.heap.size + 1, 2, none⟩ = some (.int .i64 yb) ∧ wx.cell? ⟨w.heap.size + 1, 3, none⟩ = some (.int .i64 yn) ∧ wx.cell? ⟨w.heap.size + 1, 10, none⟩ = some (.slice yE ye.length yec))
  case first =>
    go_region
    all_goals
      go_wp2
      go_meet
      refine ⟨_, _, rfl, rfl, (((((Below.refl _ _).alloc (Nat.le_refl _) _).alloc (by simp) _).alloc (by simp; omega) _).alloc (by simp; omega) _).drew, ?_⟩
      simp [go_sem]
  case rest =>
    obtain ⟨B5, B6, rfl, rfl, hw, p0, p1, p2, p3, p4, p5, s0, s1, s2, s3, s4, s5, m0, m1, m2, m3, m4, n0, n1, n2, n3, n4⟩ := hcut
    go_upto_region 2 with (fail)
    go_cut [7] (fun v wx => v = .bool (xo == yo && xp == yp && xt == yt && xm == ym && xr == yr && xd == yd) ∧ Below w.heap.size w wx ∧ wx.cell? ⟨w.heap.size, 0, none⟩ = some (.int .i64 xk) ∧ wx.cell? ⟨w.heap.size, 1, none⟩ = some (.int .i64 xa) ∧ wx.cell? ⟨w.heap.size, 2, none⟩ = some (.int .i64 xb) ∧ wx.cell? ⟨w.heap.size, 3, none⟩ = some (.int .i64 xn) ∧ wx.cell? ⟨w.heap.size, 10, none⟩ = some (.slice xE xe.length xec) ∧ wx.cell? ⟨w.heap.size + 1, 0, none⟩ = some (.int .i64 yk) ∧ wx.cell? ⟨w.heap.size + 1, 1, none⟩ = some (.int .i64 ya) ∧ wx.cell? ⟨w.heap.size + 1, 2, none⟩ = some (.int .i64 yb) ∧ wx.cell? ⟨w.heap.size + 1, 3, none⟩ = some (.int .i64 yn) ∧ wx.cell? ⟨w.heap.size + 1, 10, none⟩ = some (.slice yE ye.length yec))
    case first =>
      by_cases eo : xo = yo
      rotate_left
      · have qo : (xo == yo) = false := by simpa using eo
        have hs : (xo == yo && xp == yp && xt == yt && xm == ym && xr == yr && xd == yd) = false := by simp [eo]
        have HS := Lib.hid hs
        clear hs eo
        go_wp2
        go_meet
        exact ⟨by rw [HS.out], hw, m0, m1, m2, m3, m4, n0, n1, n2, n3, n4⟩
      have qo : (xo == yo) = true := by simpa using eo
      have Eo := Lib.hid eo
      clear eo
      by_cases ep : xp = yp
      rotate_left
      · have qp : (xp == yp) = false := by simpa using ep
        have hs : (xo == yo && xp == yp && xt == yt && xm == ym && xr == yr && xd == yd) = false := by simp [ep]
        have HS := Lib.hid hs
        clear hs ep
        go_wp2
        go_meet
        exact ⟨by rw [HS.out], hw, m0, m1, m2, m3, m4, n0, n1, n2, n3, n4⟩
      have qp : (xp == yp) = true := by simpa using ep
      have Ep := Lib.hid ep
      clear ep
      by_cases et : xt = yt
      rotate_left
      · have qt : (xt == yt) = false := by simpa using et
        have hs : (xo == yo && xp == yp && xt == yt && xm == ym && xr == yr && xd == yd) = false := by simp [et]
        have HS := Lib.hid hs
        clear hs et
        go_wp2
        go_meet
        exact ⟨by rw [HS.out], hw, m0, m1, m2, m3, m4, n0, n1, n2, n3, n4⟩
      have qt : (xt == yt) = true := by simpa using et
      have Et := Lib.hid et
      clear et
      by_cases em : xm = ym
      rotate_left
      · have qm : (xm == ym) = false := by simpa using em
        have hs : (xo == yo && xp == yp && xt == yt && xm == ym && xr == yr && xd == yd) = false := by simp [em]
        have HS := Lib.hid hs
        clear hs em
        go_wp2
        go_meet
        exact ⟨by rw [HS.out], hw, m0, m1, m2, m3, m4, n0, n1, n2, n3, n4⟩
      have qm : (xm == ym) = true := by simpa using em
      have Em := Lib.hid em
      clear em
      by_cases er : xr = yr
      rotate_left
      · have qr : (xr == yr) = false := by simpa using er
        have hs : (xo == yo && xp == yp && xt == yt && xm == ym && xr == yr && xd == yd) = false := by simp [er]
        have HS := Lib.hid hs
        clear hs er
        go_wp2
        go_meet
        exact ⟨by rw [HS.out], hw, m0, m1, m2, m3, m4, n0, n1, n2, n3, n4⟩
      have qr : (xr == yr) = true := by simpa using er
      have Er := Lib.hid er
      clear er
      have hs : (xo == yo && xp == yp && xt == yt && xm == ym && xr == yr && xd == yd) = (xd == yd) := by simp [Eo.out, Ep.out, Et.out, Em.out, Er.out]
      have HS := Lib.hid hs
      clear hs
      go_wp2_with fail
      refine (CE.out xD yD xdc ydc xd yd _ (hx.below hw hw.size) (hy.below hw hw.size) lx ly).mono ?_
      rintro e w2 ⟨rfl, hb2⟩
      have hwx := hw.size
      have old : ∀ p : Addr, p.block < w.heap.size → w2.cell? p = w.cell? p := fun p hp => ((hw.trans (hb2.mono hw.size)).cell hp)
      replace m0 := (hb2.cell (cell_lt m0)).trans m0
      replace m1 := (hb2.cell (cell_lt m1)).trans m1
      replace m2 := (hb2.cell (cell_lt m2)).trans m2
      replace m3 := (hb2.cell (cell_lt m3)).trans m3
      replace m4 := (hb2.cell (cell_lt m4)).trans m4
      replace n0 := (hb2.cell (cell_lt n0)).trans n0
      replace n1 := (hb2.cell (cell_lt n1)).trans n1
      replace n2 := (hb2.cell (cell_lt n2)).trans n2
      replace n3 := (hb2.cell (cell_lt n3)).trans n3
      replace n4 := (hb2.cell (cell_lt n4)).trans n4
      go_wp2
      go_meet
      exact ⟨by rw [HS.out], hw.trans (hb2.mono hw.size), m0, m1, m2, m3, m4, n0, n1, n2, n3, n4⟩
    case rest =>
      clear p0 p1 p2 p3 p4 p5 s0 s1 s2 s3 s4 s5 m0 m1 m2 m3 m4 n0 n1 n2 n3 n4 hw
      obtain ⟨rfl, hw, m0, m1, m2, m3, m4, n0, n1, n2, n3, n4⟩ := hcut
      obtain ⟨op, hop⟩ : ∃ op : Bool, (xo == yo && xp == yp && xt == yt && xm == ym && xr == yr && xd == yd) = op := ⟨_, rfl⟩
      rw [hop]
      have hsame : Fm.same ⟨xk, xa, xb, xn, xo, xp, xt, xm, xr, xd, xe⟩ ⟨yk, ya, yb, yn, yo, yp, yt, ym, yr, yd, ye⟩ = (op && xk == yk && xa == ya && xb == yb && xn == yn && xe == ye) := by
        rw [← hop]
        simp only [Fm.same]
        rw [Bool.eq_iff_iff]
        simp only [Bool.and_eq_true]
        constructor
        · rintro ⟨⟨⟨⟨⟨⟨⟨⟨⟨⟨h1, h2⟩, h3⟩, h4⟩, h5⟩, h6⟩, h7⟩, h8⟩, h9⟩, h10⟩, h11⟩
          exact ⟨⟨⟨⟨⟨⟨⟨⟨⟨⟨h5, h6⟩, h7⟩, h8⟩, h9⟩, h10⟩, h1⟩, h2⟩, h3⟩, h4⟩, h11⟩
        · rintro ⟨⟨⟨⟨⟨⟨⟨⟨⟨⟨h5, h6⟩, h7⟩, h8⟩, h9⟩, h10⟩, h1⟩, h2⟩, h3⟩, h4⟩, h11⟩
          exact ⟨⟨⟨⟨⟨⟨⟨⟨⟨⟨h1, h2⟩, h3⟩, h4⟩, h5⟩, h6⟩, h7⟩, h8⟩, h9⟩, h10⟩, h11⟩
      have HSM := Lib.hid hsame
      clear hsame hop
      cases op
      · go_wp2
        go_ret
        exact ⟨by rw [HSM.out]; simp, hw⟩
      by_cases ek : xk = yk
      rotate_left
      · have qk : (xk == yk) = false := by simpa using ek
        have hs := HSM.out
        simp only [qk, Bool.and_false, Bool.false_and] at hs
        have HS := Lib.hid hs
        clear hs ek
        go_wp2
        go_ret
        exact ⟨by rw [HS.out]; rfl, hw⟩
      have qk : (xk == yk) = true := by simpa using ek
      have Ek := Lib.hid ek
      clear ek
      by_cases ea : xa = ya
      rotate_left
      · have qa : (xa == ya) = false := by simpa using ea
        have hs := HSM.out
        simp only [qa, Bool.and_false, Bool.false_and] at hs
        have HS := Lib.hid hs
        clear hs ea
        go_wp2
        go_ret
        exact ⟨by rw [HS.out]; rfl, hw⟩
      have qa : (xa == ya) = true := by simpa using ea
      have Ea := Lib.hid ea
      clear ea
      by_cases eb : xb = yb
      rotate_left
      · have qb : (xb == yb) = false := by simpa using eb
        have hs := HSM.out
        simp only [qb, Bool.and_false, Bool.false_and] at hs
        have HS := Lib.hid hs
        clear hs eb
        go_wp2
        go_ret
        exact ⟨by rw [HS.out]; rfl, hw⟩
      have qb : (xb == yb) = true := by simpa using eb
      have Eb := Lib.hid eb
      clear eb
      by_cases en : xn = yn
      rotate_left
      · have qn : (xn == yn) = false := by simpa using en
        have hs := HSM.out
        simp only [qn, Bool.and_false, Bool.false_and] at hs
        have HS := Lib.hid hs
        clear hs en
        go_wp2
        go_ret
        exact ⟨by rw [HS.out]; rfl, hw⟩
      have qn : (xn == yn) = true := by simpa using en
      have En := Lib.hid en
      clear en
      have hs := HSM.out
      simp only [qk, qa, qb, qn, Bool.true_and] at hs
      have HS := Lib.hid hs
      clear hs
      go_wp2_with fail
      refine (CF.out xE yE xec yec xe ye _ (gx.below hw hw.size) (gy.below hw hw.size) mx my).mono ?_
      rintro e w2 ⟨rfl, hb2⟩
      go_wp2
      go_ret
      exact ⟨by rw [HS.out]; rfl, hw.trans (hb2.mono hw.size)⟩
end Go.Proofs.YtjcbfbdbgplakaaDoor
