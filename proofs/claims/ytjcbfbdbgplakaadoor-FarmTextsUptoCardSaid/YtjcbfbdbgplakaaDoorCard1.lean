/-
  THE CARD OF FarmTexts (second form): for every text and every list of moves that together hold at most 1048576 values and letters, FarmTexts returns true and leaves both as they were.
  Conditions: the listed package-level variables hold what the program's text lays (the card ties them).
-/
import Derived.Test.YtjcbfbdbgplakaaDoorOpen
import Derived.Test.YtjcbfbdbgplakaaDoorTie
import Derived.WalkKit
import Derived.ProofKit
import Derived.OpenShut
import Derived.Deep.DeepHandedRow
import Derived.Lay
namespace Go.Proofs.YtjcbfbdbgplakaaDoor
open Go.ChangeShapes Go.WideShapes Go.ChangeAt Go.RowKit
open Fm (Bs Mv)

theorem own : ownKnob Tryd.prog.godebug = none := by kernel_rfl
theorem laidOut : laidOutB Tryd.prog = true := by kernel_rfl

theorem laid_one {W : World} (h : laidMetH Tryd.prog Rows.farmTextsUptoRow.laid W) (n : String) (l : List (String × DataW Unit))
    (e : (Rows.farmTextsUptoRow.laid.filter (fun x => x.1 == n)).filter (fun x => x.2.handleName?.isNone) = l) : laidMet Tryd.prog l W := by
  have := (laidMetH_iff.1 (h.filter (fun x => x.1 == n))).1
  rw [e] at this
  exact this
set_option maxRecDepth 100000 in
theorem var_iface {W : World} {n nm : String} {d : DataW Unit} {ms : Array (String × TypeId)} {g : Nat} {ti : TypeId} (h : laidMet Tryd.prog [(n, .iface nm d)] W)
    (hg : Tryd.prog.globalNamed n = some g) (ht : (Tryd.prog.globals[g]?).map (·.type) = some ti) (hi : Tryd.prog.underlying ti = some (.interface ms)) : ∃ tp p, W.var? Tryd.prog n = some #[.iface tp p] := by
  obtain ⟨ps, ⟨g0, t0, cs0, f0, p0, q0, hg0, ht0, hv0, hd0, _, _⟩, _, _⟩ := h
  obtain rfl := Option.some.inj (hg.symm.trans hg0)
  obtain rfl := Option.some.inj (ht.symm.trans ht0)
  obtain ⟨_, u, v, e, _, _⟩ := iface_of_trod hi hd0
  refine ⟨u, v, ?_⟩
  rw [hv0]
  exact congrArg some (Array.toList_inj.1 e)
theorem gPow : Tryd.prog.globalNamed "internal/strconv.uint64pow10" = some 7 := by kernel_rfl
theorem gSp : Tryd.prog.globalNamed "strings.asciiSpace" = some 0 := by kernel_rfl
theorem gSyn : Tryd.prog.globalNamed "strconv.ErrSyntax" = some 4 := by kernel_rfl
theorem gRng : Tryd.prog.globalNamed "strconv.ErrRange" = some 5 := by kernel_rfl
theorem tSyn : (Tryd.prog.globals[4]?).map (·.type) = some 56 := by kernel_rfl
theorem tRng : (Tryd.prog.globals[5]?).map (·.type) = some 56 := by kernel_rfl
theorem tPow : (Tryd.prog.globals[7]?).map (·.type) = some 152 := by kernel_rfl
theorem tSp : (Tryd.prog.globals[0]?).map (·.type) = some 107 := by kernel_rfl
theorem u152 : Tryd.prog.underlying 152 = some (.array 20 116) := by kernel_rfl
theorem u116 : Tryd.prog.underlying 116 = some (.int .u64) := by kernel_rfl
theorem u107 : Tryd.prog.underlying 107 = some (.array 256 5) := by kernel_rfl
theorem u56 : Tryd.prog.underlying 56 = some (.interface #[("Error", 59)]) := by kernel_rfl
theorem ePow : ((Rows.farmTextsUptoRow.laid.filter (fun x => x.1 == "internal/strconv.uint64pow10")).filter (fun x => x.2.handleName?.isNone)) = [("internal/strconv.uint64pow10", Lib.tabData .u64 Lib.pow10Tab)] := by kernel_rfl
theorem eSp : ((Rows.farmTextsUptoRow.laid.filter (fun x => x.1 == "strings.asciiSpace")).filter (fun x => x.2.handleName?.isNone)) = [("strings.asciiSpace", Lib.tabData .u8 Lib.asciiSpaceTab)] := by kernel_rfl
theorem eSyn : ((Rows.farmTextsUptoRow.laid.filter (fun x => x.1 == "strconv.ErrSyntax")).filter (fun x => x.2.handleName?.isNone)) = [("strconv.ErrSyntax", Rows.laid_strconv_ErrSyntax)] := by kernel_rfl
theorem eRng : ((Rows.farmTextsUptoRow.laid.filter (fun x => x.1 == "strconv.ErrRange")).filter (fun x => x.2.handleName?.isNone)) = [("strconv.ErrRange", Rows.laid_strconv_ErrRange)] := by kernel_rfl
set_option maxRecDepth 100000 in
theorem env {W : World} (hL : laidMetH Tryd.prog Rows.farmTextsUptoRow.laid W) (hS : W.ShapedOpen Tryd.prog) : Env W where
  sh := hS
  pow := Lib.tabIs_of_head (rest := []) gPow tPow u152 u116 (by kernel_rfl) (by kernel_rfl) (laid_one hL _ _ ePow)
  sp := Lib.tabIs_of_head (rest := []) gSp tSp u107 Tryd.underlying5 (by kernel_rfl) (by kernel_rfl) (laid_one hL _ _ eSp)
  syn := var_iface (laid_one hL _ _ eSyn) gSyn tSyn u56
  rng := var_iface (laid_one hL _ _ eRng) gRng tRng u56

set_option maxRecDepth 100000 in
/-- What the walk gives for every argument and every world that the row speaks of. -/
theorem contract (H : Type) (enc : TypeId × Value → H) (W : World) (args : Array Value) (ds gs : List (DataW H)) (before : List MemPlace)
    (base : Nat) (hval : ∀ (j : Nat) t v, Tryd.f3.params[j]? = some t → args[j]? = some v → Value.okWide Tryd.prog W .any base t v)
    (hW : DataW.Whole enc Tryd.prog Tryd.f3.params.toList Rows.farmTextsSpec.vars false W args.toList ds gs before) (hB : Rows.uptoBulkAll (ds ++ gs) ≤ 1048576)
    (hL : laidMetH Tryd.prog Rows.farmTextsUptoRow.laid W) (hS : W.ShapedOpen Tryd.prog) :
    Calls Tryd.prog 3 args W fun e W' => ∃ v, e = .returned v ∧ Rows.farmTextsSpec.post enc Tryd.prog Tryd.f3 false true false false W args v W' := by
  have hW' := hW
  obtain ⟨p, q, hA0, hV, rfl, hfz, hnd⟩ := hW
  have hA : DataW.TrodAll enc Tryd.prog W 0 (fun _ => true) true Tryd.f3.params.toList args.toList ds p := hA0
  rw [Tryd.params3] at hA hval
  obtain ⟨v0, vs0, d0, ds0, p0, q0, hargs, rfl, rfl, h0, r0⟩ := trodAll_cons hA
  obtain ⟨v1, vs1, d1, ds1, p1, q1, rfl, rfl, rfl, h1, r1⟩ := trodAll_cons r0
  obtain ⟨rfl, rfl, rfl⟩ := trodAll_nil r1
  obtain rfl : args = #[v0, v1] := by cases args; simp_all
  obtain ⟨rfl, rfl⟩ := trodVars_none hV
  obtain ⟨s, hs0, hd0, hp0, _⟩ := ChangeMaps.open_string Tryd.underlying9 (hval 0 9 v0 rfl rfl) h0
  have h1k := h1
  have hsl := okWide_slice Tryd.underlying22 (hval 1 22 v1 rfl rfl)
  obtain ⟨A, c, ms, rfl, hM, hmd, hmn⟩ := moves_open hsl h1
  clear hA0
  simp only [List.append_nil] at hW'
  subst hs0 hd0 hp0
  have hbk : s.data.toList.length + 1 + Rows.uptoBulk d1 ≤ 1048576 := by
    simp only [List.append_nil, Rows.uptoBulkAll, Rows.uptoBulk] at hB
    omega
  have hlt : ∀ x ∈ p1, x.block < W.heap.size := fun x hx => by simpa using hW'.lt x (by simpa using hx)
  have walk := farm_any s.data.toList (by omega) ms A c W (env hL hS) hM (fun m hm => by have := hmd m hm; omega) (by omega)
  rw [str_of] at walk
  refine walk.mono fun e W' ⟨he, hb⟩ => ?_
  subst he
  refine ⟨_, rfl, [.lit (.string s.data.toList), d1], [], [] ++ p1, [], [] ++ (p1 ++ []), [], hW', ?_, ?_, rfl, hb.frame _, fun h => by cases h⟩
  · exact trodAll_cons_mk (shut_bool Tryd.underlying4 _) trodAll_mk0
  · exact trodAll_cons_mk (Below.trod laidOut (by kernel_rfl) (of_decide_eq_true (by kernel_rfl)) h0 hb (by simp)) (trodAll_cons_mk (Below.trod laidOut (by kernel_rfl) (of_decide_eq_true (by kernel_rfl)) h1k hb hlt) trodAll_mk0)

/-! ### the witness: an empty text, no moves, in a world that bears the listed variables -/
noncomputable def laidWorld (os : Os) : World := World.laidAll Tryd.prog os Rows.farmTextsUptoRow.laid
theorem laid_met (os : Os) : laidMet Tryd.prog Rows.farmTextsUptoRow.laid ((laidWorld os).forCall (fun _ _ => 0) ⟨#[], #[.string ByteArray.empty, .slice none 0 0], []⟩).memory :=
  laidMet_laidAll _ (by kernel_rfl) (by kernel_rfl)
theorem reads (os : Os) {H : Type} (enc : TypeId × Value → H) : ∃ places, DataW.whole enc Tryd.prog ((laidWorld os).forCall (fun _ _ => 0) ⟨#[], #[.string ByteArray.empty, .slice none 0 0], []⟩).memory Tryd.f3.params.toList Rows.farmTextsSpec.vars false #[Value.string ByteArray.empty, Value.slice none 0 0].toList 8 = some ([.lit (.string []), .nil], [], places) :=
  ⟨[], by kernel_rfl⟩
theorem shaped (os : Os) : ((laidWorld os).forCall (fun _ _ => 0) ⟨#[], #[.string ByteArray.empty, .slice none 0 0], []⟩).Shaped Tryd.prog :=
  World.shaped_of_ZipB (by kernel_rfl) (by kernel_rfl)

set_option maxRecDepth 100000 in
theorem liftedUpto (os : Os) (started : os.Started) (H : Type) (enc : TypeId × Value → H) (F : Stop.Interp) :
    ReturnsInHanded {} Tryd.checked os 3 .any ((Rows.OpenSpec.upto Rows.farmTextsSpec).preRow enc Tryd.prog Tryd.f3 Rows.farmTextsUptoRow.domain false Rows.farmTextsUptoRow.laid) (((Rows.OpenSpec.upto Rows.farmTextsSpec).at F).post enc Tryd.prog Tryd.f3 false true false false) := by
  obtain ⟨places, hx⟩ := reads os enc
  refine returnsInHanded_of_row (C := Tryd.checked) (s := Rows.OpenSpec.upto Rows.farmTextsSpec) own started (by kernel_rfl) Tryd.func3
    ⟨laidWorld os, fun _ _ => 0, ⟨#[], #[.string ByteArray.empty, .slice none 0 0], []⟩, World.laidAll_os _ _ _, shaped os, rfl, ?_, OpenSpec.preRow_of_cond 8 hx (by kernel_rfl) (fun k hk => by cases hk; kernel_rfl) (by kernel_rfl) (by rw [MakeChecks.laidMetH_plain _ _ _ (by kernel_rfl)]; exact laid_met os), ?_⟩ ?_
  · exact (Input.okWide_of_okWideB (by kernel_rfl)).2
  · simp only [Assume.holds]
    exact ⟨by simp, by simp, by simp, by simp, by simp⟩
  · intro W base args ds gs before hval hW _ hcond _ hL hS _
    exact contract H enc W args ds gs before base hval hW (of_decide_eq_true (hcond _ rfl)) hL hS

theorem saidUpto : Rows.FarmTextsUptoSaid :=
  OpenClaim.holds_of_cond 3 Tryd.f3 rfl rfl rfl rfl rfl rfl rfl ⟨rfl, rfl, rfl, rfl, rfl⟩ rfl rfl rfl rfl rfl (by kernel_rfl) Tryd.func3 (by kernel_rfl)
    (of_decide_eq_true (by kernel_rfl)) (by unfold Func.isWrapper; first | (rw [if_pos (by decide +kernel)]; kernel_rfl) | (rw [if_neg (by decide +kernel)]; exact ⟨rfl, rfl⟩))
    (fun os started H enc _ F => by rw [OpenClaim.pre_eq_preRow]; exact liftedUpto os started H enc F)

theorem plain (f : FuncId) (fn : Func) (hf : Tryd.pinned.checked.prog.funcNamed "almanac/almanaclaw26.FarmTexts" = some f) (hfn : Tryd.pinned.checked.prog.funcs[f]? = some fn) :
    true = Tryd.pinned.checked.prog.looks [] ∧ ∀ (j : Nat) t, fn.params[j]? = some t → Tryd.pinned.checked.prog.wantsStandIn t = false := by
  obtain rfl : f = 3 := Option.some.inj ((show Tryd.prog.funcNamed "almanac/almanaclaw26.FarmTexts" = some 3 by kernel_rfl).symm.trans hf) |>.symm
  obtain rfl : fn = Tryd.f3 := (Option.some.inj (Tryd.func3.symm.trans hfn)).symm
  refine ⟨by kernel_rfl, fun j t ht => ?_⟩
  rw [Tryd.params3] at ht
  have h : t = 9 ∨ t = 22 := by simpa using Array.mem_of_getElem? ht
  rcases h with rfl | rfl
  · exact (show Tryd.prog.wantsStandIn 9 = false by kernel_rfl)
  · exact (show Tryd.prog.wantsStandIn 22 = false by kernel_rfl)

/-- FarmTexts: the second form's card. -/
theorem farmTexts_card : Rows.FarmTextsUptoCardSaid :=
  Claim7.holds_tied_plain_at .later [] _ _ _ _ saidUpto (fun _ h => by cases h) (by kernel_rfl) (fun _ h => by cases h) farmTextsUpto_row_tie rfl ⟨rfl, rfl⟩ (by kernel_rfl) rfl plain (by kernel_rfl)
#print axioms farmTexts_card
end Go.Proofs.YtjcbfbdbgplakaaDoor
