/-
  WALK: known: the two moves of the text that the statement names.
-/
import Derived.BigQuiet
import Derived.Deep.QuietTactic
import Derived.Test.YtjcbfbdbgplakaaDoorW13
import Derived.Test.YtjcbfbdbgplakaaDoorW12
namespace Go.Proofs.YtjcbfbdbgplakaaDoor
open Go.RowKit
open Fm (Bs Mv)
def lit1 : Bs := [115, 116, 111, 114, 101, 32, 49, 32, 50, 48, 32, 48, 97, 102, 102, 10, 10, 98, 111, 111, 116, 32, 49, 48, 10]
def lit2 : Bs := [115, 116, 111, 114, 101, 32, 49, 32, 50, 48, 32, 48, 97, 102, 102, 10, 98, 111, 111, 116, 32, 49, 48, 10]
def mv1 : Mv := ⟨1, 0, 0, 0, 6, 1, 20, 0, 0, [10, 255], []⟩
def mv2 : Mv := ⟨8, 0, 0, 0, 0, 0, 0, 0, 0, [], [true, false]⟩
theorem parse_lit : Fm.parse lit1 = ([mv1, mv2], 0) := by
  have h1 : (Fm.parse lit1).2 = 0 := by decide +kernel
  have h2 : (Fm.parse lit1).1 = [mv1, mv2] := by kernel_rfl
  rw [← h1, ← h2]
theorem text_lit : Fm.text [mv1, mv2] = lit2 := by decide +kernel
abbrev PARSE (f : Nat) : Prop := ∀ (s : Bs) (_ : s.length ≤ 1048575) (w : World) (_ : Env w), Calls Tryd.prog f #[.string (str s)] w (ParsePost (Fm.parse s) w)
abbrev TEXTF : Prop := ∀ (ms : List Mv) (A : Option Addr) (c : Nat) (w : World) (_ : Env w) (_ : Moves w w.heap.size A ms.length ms) (_ : ∀ m ∈ ms, m.d.length ≤ 1048576 ∧ m.e.length ≤ 1048576) (_ : ms.length ≤ 4096),
    Calls Tryd.prog 10 #[.slice A ms.length c] w fun e w' => e = .returned (.string (str (Fm.text ms))) ∧ Below w.heap.size w w'
set_option maxRecDepth 100000 in
set_option maxHeartbeats 4000000 in
theorem known_of (CP0 : PARSE 6) (CT0 : TEXTF) (w : World) (hE : Env w) :
    Calls Tryd.prog 4 #[] w fun e w' => e = .returned (.bool true) ∧ Below w.heap.size w w' := by
  have CP := Lib.hid (CP0 lit1 (by decide) w hE)
  have CT := Lib.hid CT0
  clear CP0 CT0
  rw [parse_lit] at CP
  go_enter Tryd.func4, Tryd.ntmps4
  go_wp2_with fail
  refine CP.out.mono ?_
  rintro e' w1 ⟨A, c, rfl, hM, hb⟩
  obtain ⟨ad, x, hA, hadb, hmem, hc⟩ := hM.at_ (i := 0) (by decide)
  obtain ⟨ad', x1, hA', _, hmem1, hc1⟩ := hM.at_ (i := 1) (by decide)
  subst hA
  injection hA' with hA'
  subst hA'
  have t6 := elem_at hc 6 (.int .i64 20) (by omega) rfl
  have t9 := elem_at hc 9 (.slice x.d 2 x.dc) (by omega) rfl
  have r10 := elem_at hc1 10 (.slice x1.e 2 x1.ec) (by omega) rfl
  have z0 : ad.add (0 * 11) = ad := by simp [Addr.add]
  have z1 : ad.add (1 * 11) = ad.add 11 := rfl
  rw [z0] at t6 t9
  have r10' : w1.cell? ⟨ad.block, ad.off + 11 + 10, none⟩ = some (.slice x1.e 2 x1.ec) := by
    have h1 : (ad.add (1 * 11)).block = ad.block := rfl
    have h2 : (ad.add (1 * 11)).off = ad.off + 11 := rfl
    rw [h1, h2] at r10
    exact r10
  clear r10
  have t6' : w1.cell? ⟨ad.block, ad.off + 4 + 2, none⟩ = some (.int .i64 20) := t6
  have t9' : w1.cell? ⟨ad.block, ad.off + 4 + 5, none⟩ = some (.slice x.d 2 x.dc) := t9
  have cv : (convert 32 9 (.slice x.d 2 x.dc)).run Tryd.prog w1 = .ok (.string ⟨#[10, 255]⟩) w1 := run_bytes_string x.dc hmem.d
  have CTT := Lib.hid (CT.out [mv1, mv2] (some ad) c w1 (hE.below hb) hM (by decide) (by decide))
  rw [text_lit] at CTT
  clear z0 z1 t6 t9
  go_wp2_with fail
  refine CTT.out.mono ?_
  rintro e' w2 ⟨rfl, hb2⟩
  have hl2 : str lit2 = { data := #[115, 116, 111, 114, 101, 32, 49, 32, 50, 48, 32, 48, 97, 102, 102, 10, 98, 111, 111, 116, 32, 49, 48, 10] } := rfl
  rw [hl2]
  go_wp2
  go_ret
  exact ⟨rfl, hb.trans (hb2.mono hb.size)⟩
end Go.Proofs.YtjcbfbdbgplakaaDoor
