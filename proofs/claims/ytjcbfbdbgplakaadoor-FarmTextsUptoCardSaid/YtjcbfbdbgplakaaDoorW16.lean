/-
  WALK: farm.Parse: the range over SplitSeq, each line read by farm.read, the moves appended; the results lie in cells.
-/
import Derived.Deep.AppendLies
import Derived.Deep.DeepMust
import Derived.Test.YtjcbfbdbgplakaaDoorW12
import Derived.Test.YtjcbfbdbgplakaaDoorW11
import Derived.Test.YtjcbfbdbgplakaaDoorW15
namespace Go.Proofs.YtjcbfbdbgplakaaDoor
open Go.RowKit Go.Shelf
open Fm (Bs Mv)
attribute [local go_sem] Oper.semAt_some

/-- A slice that lies from block B on, where it holds anything. -/
def Frn (B n : Nat) (A : Option Addr) : Prop := 0 < n → ∀ ad, A = some ad → B ≤ ad.block
def MvRowF (W : World) (D : Nat) (t : TypeId) (v : Value) (ms : List Mv) : Prop :=
  ∃ xs : List At, xs.length = ms.length ∧ W.ownsRow D t 11 v ms.length (flat ms xs) ∧ ∀ y ∈ ms.zip xs, (Mem W W.heap.size y.1 y.2 ∧ Off v y.1.d.length y.2.d ∧ Off v y.1.e.length y.2.e) ∧ Frn D y.1.d.length y.2.d ∧ Frn D y.1.e.length y.2.e
theorem MvRowF.nil (W : World) (D : Nat) (t : TypeId) : MvRowF W D t (.slice none 0 0) [] := ⟨[], rfl, World.ownsRow_nil _ _ _ _, fun y hy => by simp at hy⟩
theorem MvRowF.row {W : World} {D : Nat} {t : TypeId} {v : Value} {ms : List Mv} (h : MvRowF W D t v ms) : MvRow W D t v ms := by
  obtain ⟨xs, h1, h2, h3⟩ := h
  exact ⟨xs, h1, h2, fun y hy => (h3 y hy).1⟩
/-- What turns no cells from D on leaves the row as it lies. -/
def Lets (W : World) (D : Nat) (row : Option Nat) : Prop := ∀ r, row = some r → r < D ∨ ∃ o : Obj, W.heap[r]? = some o ∧ o.isCells = false
theorem Rd.lets {w w' : World} {D : Nat} {row : Option Nat} {n : Nat} {A : Option Addr} {xs : List Value} (h : Rd w w.heap.size 1 A n xs) (hf : Frn D n A) (hg : w.grownBy w' row) (hr : Lets w D row) : Rd w' w'.heap.size 1 A n xs :=
  ⟨h.1, fun hn => by
    obtain ⟨ad, e, hb, hc⟩ := h.2 hn
    have hD := hf hn ad e
    have hx : 0 < xs.length := by rw [h.1]; omega
    obtain ⟨o, ho, hoc⟩ := cells_of_cell (hc 0 xs[0] (List.getElem?_eq_getElem hx))
    rw [add_block] at ho
    have hne : some ad.block ≠ row := fun e => by
      rcases hr _ e.symm with h1 | ⟨o', h1, h2⟩
      · omega
      · rw [ho] at h1; cases h1; rw [hoc] at h2; cases h2
    exact ⟨ad, e, Nat.lt_of_lt_of_le hb hg.size, fun j u hu => (hg.cell_far (ad.add j) (by rw [add_block]; exact hb) (by rw [add_block]; exact hne)).trans (hc j u hu)⟩⟩
theorem MvRowF.lets {W W' : World} {D : Nat} {row : Option Nat} {t : TypeId} {v : Value} {ms : List Mv} (h : MvRowF W D t v ms) (hg : W.grownBy W' row) (hr : Lets W D row) : MvRowF W' D t v ms := by
  obtain ⟨xs, h1, h2, h3⟩ := h
  refine ⟨xs, h1, h2.kept hg ?_, fun y hy => ?_⟩
  · cases hv : v.ownBlock with
    | none => exact .inl rfl
    | some g =>
      right
      intro e
      have hlt := h2.lt g hv
      rcases h2.2 with ⟨rfl, _⟩ | ⟨g', cap, cur, rfl, hD, hb, _⟩
      · simp [Value.ownBlock] at hv
      · simp [Value.ownBlock] at hv
        subst hv
        rcases hr _ e.symm with h1 | ⟨o', h1, h2⟩
        · omega
        · rw [hb] at h1; cases h1; simp [Obj.isCells] at h2
  · obtain ⟨⟨a, b, c⟩, d, e⟩ := h3 y hy
    exact ⟨⟨⟨a.d.lets d hg hr, a.e.lets e hg hr⟩, b, c⟩, d, e⟩
theorem MvRowF.below {W W' : World} {D : Nat} {t : TypeId} {v : Value} {ms : List Mv} (h : MvRowF W D t v ms) (hb : Below W.heap.size W W') : MvRowF W' D t v ms := h.lets (Below.grown0 hb) (fun r e => by cases e)
theorem MvRowF.push {W W' : World} {D : Nat} {t : TypeId} {v : Value} {ms : List Mv} {m : Mv} {x : At} {g cap : Nat} {xs : List At}
    (h1 : xs.length = ms.length) (h3 : ∀ y ∈ ms.zip xs, (Mem W W.heap.size y.1 y.2 ∧ Off v y.1.d.length y.2.d ∧ Off v y.1.e.length y.2.e) ∧ Frn D y.1.d.length y.2.d ∧ Frn D y.1.e.length y.2.e)
    (hm : Mem W W.heap.size m x) (ho1 : Off v m.d.length x.d) (ho2 : Off v m.e.length x.e) (hf1 : Frn D m.d.length x.d) (hf2 : Frn D m.e.length x.e)
    (hown : W'.ownsRow D t 11 (.slice (some ⟨g, 0, none⟩) (ms.length + 1) cap) (ms.length + 1) (flat ms xs ++ cells m x)) (hg : W.grownBy W' v.ownBlock) (hat : v.ownBlock = some g ∨ g = W.heap.size) :
    MvRowF W' D t (.slice (some ⟨g, 0, none⟩) (ms ++ [m]).length cap) (ms ++ [m]) := by
  have off : ∀ (n size : Nat) (A : Option Addr) (zs : List Value), Rd W W.heap.size size A n zs → Off v n A → Off (.slice (some ⟨g, 0, none⟩) (ms ++ [m]).length cap) n A := by
    intro n size A zs hr ho hn ad e
    obtain ⟨ad', e', hb, _⟩ := hr.2 hn
    rw [e] at e'
    injection e' with e'
    subst e'
    have h1 := ho hn ad e
    show some ad.block ≠ some g
    rcases hat with h | h
    · rw [← h]; exact h1
    · intro e2; injection e2 with e2; omega
  refine ⟨xs ++ [x], by simp [h1], ?_, ?_⟩
  · rw [List.length_append, List.length_singleton]
    have : flat (ms ++ [m]) (xs ++ [x]) = flat ms xs ++ cells m x := by
      unfold flat
      rw [List.zip_append h1.symm, List.flatMap_append]
      simp
    rw [this]
    exact hown
  · intro y hy
    rw [List.zip_append h1.symm] at hy
    rcases List.mem_append.1 hy with hy | hy
    · obtain ⟨⟨a, b, c⟩, d, e⟩ := h3 y hy
      exact ⟨⟨⟨a.d.grown b hg, a.e.grown c hg⟩, off _ _ _ _ a.d b, off _ _ _ _ a.e c⟩, d, e⟩
    · simp at hy
      subst hy
      exact ⟨⟨⟨hm.d.grown ho1 hg, hm.e.grown ho2 hg⟩, off _ _ _ _ hm.d ho1, off _ _ _ _ hm.e ho2⟩, hf1, hf2⟩

/-- The fenced append onto an owned row, and where the new row lies. -/
theorem appendIn {F : Fence} {n : Nat} (w : World) {ops : Array Oper} {rest : List Oper} {o : Oper} {a : Act} {Q : Exit → Act → World → Prop} (hgd : o.guard = none) (s x : Operand) (t : TypeId)
    (hop : o.op = .call { callee := .builtin .append, args := #[s, x], argTypes := #[t, t] })
    (base : Nat) (e : TypeId) (i : TypeInfo) (z : Value) (size bytes : Nat) (ht : Tryd.prog.underlying t = some (.slice e)) (hi : Tryd.prog.info? e = some i) (hz : i.zero = some z)
    (hsize : i.size = size) (hby : i.bytes = bytes) (hzs : z.cells.size = size) (hsz : 0 < size)
    (v : Value) (k : Nat) (xs : List Value) (hs : a.eval s = v) (hown : w.ownsRow base e size v k xs)
    (ad : Addr) (m c : Nat) (news : List Value) (hx : a.eval x = .slice (some ad) m c) (hl : news.length = m * size) (hnews : ∀ j u, news[j]? = some u → w.cell? (ad.add j) = some u) (h1 : ∀ u ∈ news, u.oneCell' = true)
    (hm : 0 < m) (h63 : k + m ≤ maxLen) (hbytes : (k + m) * bytes ≤ 140737488355328) (hbase : base ≤ w.heap.size) (H : Nat) (hH : w.heap.size = H)
    (h : ∀ g cap w', w'.ownsRow base e size (.slice (some ⟨g, 0, none⟩) (k + m) cap) (k + m) (xs ++ news) → w.grownBy w' v.ownBlock → (v.ownBlock = some g ∨ g = H) → g < w'.heap.size → wpListIn F n Tryd.prog ops Q rest (a.put o.dst (.slice (some ⟨g, 0, none⟩) (k + m) cap)) w') :
    wpListIn F n Tryd.prog ops Q (o :: rest) a w := by
  refine wpListIn_plain hgd fun K hK' => ?_
  obtain ⟨g, cap, w', hrun, r1, r2, r3, r4⟩ := run_append_lies (P := Tryd.prog) w t o.type base e i z size bytes ht hi hz hsize hby hzs hsz v k xs hown ad m c news hl hnews h1 hm h63 hbytes hbase H hH
  unfold Oper.wpIn
  refine ⟨by simp [Oper.about, hop, resolve, Target.leads, Sem.run_pure], ?_⟩
  rw [Oper.semAt_plain F _ _ (by rw [hop]; intro c hc'; cases hc')]
  simp [execOp, hop, resolve, invoke, builtin, hs, hx, hrun, Result.andThen]
  exact hK' _ _ (h g cap w' r1 r2 r3 r4)
theorem Tryd.info39 : (Tryd.prog.info? 39).map (fun i => (i.zero, i.size, i.bytes)) = some (some (.agg #[.int .i64 0, .int .i64 0, .int .i64 0, .int .i64 0, .int .i64 0, .int .i64 0, .int .i64 0, .int .i64 0, .int .i64 0, .slice none 0 0, .slice none 0 0]), 11, 120) := by kernel_rfl
theorem set_one {W : World} {b : Nat} {t : TypeId} {u : Value} (h : W.heap[b]? = some (.cells #[u] t (0, 0))) (v : Value) : (W.setCell ⟨b, 0, none⟩ v).heap[b]? = some (.cells #[v] t (0, 0)) := by
  simp [World.setCell, Array.getElem?_modify, h]
theorem set_two {W : World} {b j : Nat} (hj : j ≠ b) (v : Value) : (W.setCell ⟨b, 0, none⟩ v).heap[j]? = W.heap[j]? := Below.heap_setCell W ⟨b, 0, none⟩ v j hj
theorem Boxes.set {W : World} {bs j : Nat} {s : Bs} (h : Boxes W bs s) (hj : j < bs) (v : Value) : Boxes (W.setCell ⟨j, 0, none⟩ v) bs s :=
  ⟨(set_two (W := W) (b := j) (j := bs) (by omega) v).trans h.1, (set_two (W := W) (b := j) (j := bs + 1) (by omega) v).trans h.2.1, (set_two (W := W) (b := j) (j := bs + 2) (by omega) v).trans h.2.2⟩
/-- The function's end: the results lie in their cells. -/
theorem leave6 {n : Nat} {R : Ending → World → Prop} {a : Act} {W : World} {D b2 b3 : Nat} {v2 v3 : Value} (h2 : W.heap[b2]? = some (.cells #[v2] 22 (0, 0))) (h3 : W.heap[b3]? = some (.cells #[v3] 25 (0, 0))) (hK : W.heap[D]? = some (.deferred (some [])))
    (ha : a.defers = [{ target := .collected D, args := #[] }]) (ht2 : a.tmps[2]?.getD undef = .pointer (some ⟨b2, 0, none⟩)) (ht3 : a.tmps[3]?.getD undef = .pointer (some ⟨b3, 0, none⟩))
    (hn2 : b2 ≠ D) (hn3 : b3 ≠ D) (hR : R (.returned (.tuple #[v2, v3])) (W.putObj D (.deferred none))) : bodyPostM Fence.wide n Tryd.prog Tryd.f6 R .ret a W := by
  have k2 : (W.putObj D (.deferred none)).heap[b2]? = _ := (World.putObj_heap_other hn2).trans h2
  have k3 : (W.putObj D (.deferred none)).heap[b3]? = _ := (World.putObj_heap_other hn3).trans h3
  have c2 : (W.putObj D (.deferred none)).cell? ⟨b2, 0, none⟩ = some v2 := blk_cell k2 0
  have c3 : (W.putObj D (.deferred none)).cell? ⟨b3, 0, none⟩ = some v3 := blk_cell k3 0
  obtain ⟨tmps, defers⟩ := a
  simp only at ha ht2 ht3
  subst ha
  refine ⟨by simp, .inl ⟨_, _, rfl, run_takeDeferred hK, ?_⟩⟩
  refine ⟨.tuple #[v2, v3], ?_, hR⟩
  simp [results, Tryd.results6, ht2, ht3, go_sem, c2, c3]
set_option maxRecDepth 100000 in
set_option maxHeartbeats 4000000 in
theorem parseF_any (s : Bs) (hs : s.length ≤ 1048575) (w : World) (hE : Env w) :
    Calls Tryd.prog 6 #[.string (str s)] w (ParsePost (Fm.parse s) w) := by
  obtain ⟨i0, hi, hz0, hz1, hz2⟩ := info_parts Tryd.info39
  obtain ⟨pr, hpr⟩ : ∃ pr, Fm.parse s = pr := ⟨_, rfl⟩
  rw [hpr]
  have HPR := Lib.hid hpr
  clear hpr
  refine (callsIn_wide (n := 10)).1 ?_
  refine callsIn_of_wp_marks Tryd.func6 rfl trivial ?_ rfl
  simp only [Tryd.ntmps6, List.size_toArray, List.length_cons, List.length_nil, Nat.reduceAdd, Nat.reduceSub, Array.replicate_succ, Array.replicate_zero, List.push_toArray, List.append_toArray, List.nil_append, List.cons_append]
  gi_wp2
  refine ⟨trivial, (callsIn_wide.2 (splitSeq13_any _ _ _)).mono ?_⟩
  rintro e w' ⟨rfl, rfl⟩
  obtain ⟨w0, hw0⟩ : ∃ w0, (((((w.alloc (.cells #[.slice none 0 0] 22)).alloc (.cells #[.int .i64 0] 25)).alloc (.cells #[.slice none 0 0] 22)).alloc (.cells #[.string (str s)] 9)).alloc (.cells #[.string ⟨#[10]⟩] 9)).alloc (.cells #[.int .i64 0] 3) = w0 := ⟨_, rfl⟩
  have hz : w0.heap.size = w.heap.size + 6 := by rw [← hw0]; simp
  have hh : w0.heap = (((((w.heap.push (.cells #[.slice none 0 0] 22)).push (.cells #[.int .i64 0] 25)).push (.cells #[.slice none 0 0] 22)).push (.cells #[.string (str s)] 9)).push (.cells #[.string ⟨#[10]⟩] 9)).push (.cells #[.int .i64 0] 3) := by rw [← hw0]; rfl
  have b2 : w0.heap[w.heap.size]? = some (.cells #[.slice none 0 0] 22 (0, 0)) := by rw [hh]; simp only [Array.getElem?_push, Array.size_push]; repeat (first | rw [if_pos trivial] | rw [if_pos rfl] | rw [if_neg (by omega)])
  have b3 : w0.heap[w.heap.size + 1]? = some (.cells #[.int .i64 0] 25 (0, 0)) := by rw [hh]; simp only [Array.getElem?_push, Array.size_push]; repeat (first | rw [if_pos trivial] | rw [if_pos rfl] | rw [if_neg (by omega)])
  have b4 : w0.heap[w.heap.size + 1 + 1]? = some (.cells #[.slice none 0 0] 22 (0, 0)) := by rw [hh]; simp only [Array.getElem?_push, Array.size_push]; repeat (first | rw [if_pos trivial] | rw [if_pos rfl] | rw [if_neg (by omega)])
  have bx : Boxes w0 (w.heap.size + 1 + 1 + 1) s := by
    unfold Boxes
    rw [hh]
    refine ⟨?_, ?_, ?_⟩ <;> (simp only [Array.getElem?_push, Array.size_push]; repeat (first | rw [if_pos trivial] | rw [if_pos rfl] | rw [if_neg (by omega)]))
  have hb0 : Below w.heap.size w w0 := by
    rw [← hw0]
    exact ((((((Below.refl _ w).alloc (Nat.le_refl _) _).alloc (by simp) _).alloc (by simp; omega) _).alloc (by simp; omega) _).alloc (by simp; omega) _).alloc (by simp; omega) _
  simp only [World.size_alloc]
  rw [hw0]
  clear hw0 hh
  gi_wp2_with fail
  refine range43 (n := 10) (by omega) (bs := w.heap.size + 1 + 1 + 1) (s := s) (by omega) rfl bx (by omega)
    (fun pre W => ∃ (ms : List Mv) (g : Option Addr) (cp : Nat), W.heap[w.heap.size + 1 + 1]? = some (.cells #[.slice g ms.length cp] 22 (0, 0)) ∧ MvRowF W w0.heap.size 39 (.slice g ms.length cp) ms ∧ Fm.moves Fm.readF pre = some ms ∧ ms.length ≤ pre.length ∧ W.heap[w.heap.size]? = some (.cells #[.slice none 0 0] 22 (0, 0)) ∧ W.heap[w.heap.size + 1]? = some (.cells #[.int .i64 0] 25 (0, 0)) ∧ Below w.heap.size w W)
    (fun _ W => Fm.parse s = ([], 22) ∧ W.heap[w.heap.size]? = some (.cells #[.slice none 0 0] 22 (0, 0)) ∧ W.heap[w.heap.size + 1]? = some (.cells #[.int .i64 22] 25 (0, 0)) ∧ Below w.heap.size w W)
    ?hI ?hIx ⟨[], none, 0, b4, MvRowF.nil _ _ _, rfl, Nat.le_refl _, b2, b3, hb0⟩
    (fun x => { tmps := #[.string (str s), undef, .pointer (some ⟨w.heap.size, 0, none⟩), .pointer (some ⟨w.heap.size + 1, 0, none⟩), .pointer (some ⟨w.heap.size + 1 + 1, 0, none⟩), .string (str x), undef, undef, .string (str s), .func (.func 43) #[] #[.pointer (some ⟨w.heap.size + 1 + 1 + 1 + 1, 0, none⟩), .pointer (some ⟨w.heap.size + 1 + 1 + 1, 0, none⟩), .pointer (some ⟨w.heap.size + 1 + 1 + 1 + 2, 0, none⟩)], .string (str x), undef, undef, undef, undef, undef, undef, undef, undef, undef, undef, undef, undef, undef, undef, undef, undef, undef], defers := [] })
    ?hassign ?hbody ?hdone ?hstop
  case hI =>
    rintro pre A B row ⟨ms, g, cp, h1, h2, h3, h4, h5, h6, h7⟩ hg hr
    have lt : ∀ k o, A.heap[k]? = some o → k < A.heap.size := fun k o e => (Array.getElem?_eq_some_iff.1 e).1
    have ne : ∀ k, k < w.heap.size + 1 + 1 + 1 → some k ≠ row := fun k hk e => by
      rcases hr _ e.symm with h | ⟨h, _⟩ <;> omega
    refine ⟨ms, g, cp, (hg.block _ (lt _ _ h1) (ne _ (by omega))).trans h1, h2.lets hg (fun r e => ?_), h3, h4, (hg.block _ (lt _ _ h5) (ne _ (by omega))).trans h5, (hg.block _ (lt _ _ h6) (ne _ (by omega))).trans h6, h7.grown hg h7.size (fun r e => ?_)⟩
    · rcases hr r e with h | ⟨_, h⟩
      · exact .inl (by omega)
      · exact .inr h
    · rcases hr r e with h | ⟨h, _⟩ <;> omega
  case hIx =>
    rintro pre A B row ⟨h4, h5, h6, h7⟩ hg hr
    have lt : ∀ k o, A.heap[k]? = some o → k < A.heap.size := fun k o e => (Array.getElem?_eq_some_iff.1 e).1
    have ne : ∀ k, k < w.heap.size + 1 + 1 + 1 → some k ≠ row := fun k hk e => by
      rcases hr _ e.symm with h | ⟨h, _⟩ <;> omega
    refine ⟨h4, (hg.block _ (lt _ _ h5) (ne _ (by omega))).trans h5, (hg.block _ (lt _ _ h6) (ne _ (by omega))).trans h6, h7.grown hg h7.size (fun r e => ?_)⟩
    rcases hr r e with h | ⟨h, _⟩ <;> omega
  case hassign =>
    intro l x W K hK
    gi_wp2
    exact hK
  case hbody =>
    rintro l pre x rest t W ⟨ms, g, cp, h1, h2, h3, h4, h5, h6, h7⟩ hsp hbt hlt
    have hxl : x.length ≤ 1048575 := by
      have := Fm.split_le 10 s x (by rw [hsp]; simp)
      omega
    have hml : ms.length ≤ 1048576 := by
      have := Fm.split_many 10 s
      rw [hsp, List.length_append, List.length_cons] at this
      omega
    have hmb := hml
    by_cases hx : x = []
    · have e1 : ((str x).toList == []) = true := by rw [str_toList, hx]; rfl
      have hm2 : Fm.moves Fm.readF (pre ++ [x]) = some ms := by rw [Fm.moves_snoc, h3, Option.bind_some, if_pos hx]
      have HM2 := Lib.hid hm2
      have H3 := Lib.hid h3
      clear hm2 hx h3
      gi_wp2
      exact ⟨KeepsFrom.refl _ _, ⟨ms, g, cp, h1, h2, HM2.out, by rw [List.length_append]; omega, h5, h6, h7⟩, hbt⟩
    · have e1 : ((str x).toList == []) = false := by rw [str_toList]; cases x <;> simp at hx ⊢
      have HM2 := Lib.hid (Fm.moves_snoc Fm.readF pre x)
      rw [h3, Option.bind_some, if_neg hx] at HM2
      have HBAD : Hid (Fm.readF x = none → Fm.parse s = ([], 22)) := Lib.hid (fun hn => by
        unfold Fm.parse
        rw [hsp, ← show Fm.readF = Fm.lineR from funext Fm.readF_eq, Fm.moves_none Fm.readF rest hx hn pre])
      have CR := Lib.hid (CallsIn.inRound l (callsIn_wide.2 (readF_any x hxl W (hE.below h7)) : CallsIn Fence.wide (10 - 1 - 1 - 1) Tryd.prog 14 _ _ _))
      have H3 := Lib.hid h3
      clear hx h3
      gi_wp2_with fail
      refine ⟨trivial, CR.out.mono ?_⟩
      rintro e w3 ⟨⟨mk, ma, mb, mn, mo, mp, mt, mm, mr, md, me⟩, yd, ye, nd, ydc, ne, yec, ok, rfl, hb3, k1, k2⟩
      have lt : ∀ k o, W.heap[k]? = some o → k < W.heap.size := fun k o e => (Array.getElem?_eq_some_iff.1 e).1
      have hk3 : KeepsFrom w0.heap.size W w3 := ⟨hb3.size, fun k o _ hk _ => (hb3.block k (lt _ _ hk)).trans hk⟩
      have q1 := (hb3.block _ (lt _ _ h1)).trans h1
      have q5 := (hb3.block _ (lt _ _ h5)).trans h5
      have q6 := (hb3.block _ (lt _ _ h6)).trans h6
      have q7 := h7.trans (hb3.mono h7.size)
      have hs3 := hb3.size
      have z1 : w.heap.size < w3.heap.size := by omega
      have z2 : w.heap.size + 1 < w3.heap.size := by omega
      have z3 : w.heap.size + 1 + 1 < w3.heap.size := by omega
      cases ok with
      | false =>
        have HN := Lib.hid (HBAD.out (k1 rfl))
        have c2 := blk_cell q5 0
        have c3 := blk_cell q6 0
        have f2 := blk_frozen q5 0
        have f3 := blk_frozen q6 0
        clear k1 k2
        gi_wp2_with fail
        have p5 := (set_two (W := w3.setCell ⟨w.heap.size, 0, none⟩ (.slice none 0 0)) (b := w.heap.size + 1) (j := w.heap.size) (by omega) (.int .i64 22)).trans (set_one q5 (.slice none 0 0))
        have p6 := set_one (b := w.heap.size + 1) ((set_two (W := w3) (b := w.heap.size) (j := w.heap.size + 1) (by omega) (.slice none 0 0)).trans q6) (.int .i64 22)
        have p7 : Below w.heap.size w ((w3.setCell ⟨w.heap.size, 0, none⟩ (.slice none 0 0)).setCell ⟨w.heap.size + 1, 0, none⟩ (.int .i64 22)) := (q7.setCell (Nat.le_refl _) _).setCell (by simp) _
        have pz : ((w3.setCell ⟨w.heap.size, 0, none⟩ (.slice none 0 0)).setCell ⟨w.heap.size + 1, 0, none⟩ (.int .i64 22)).heap.size = w3.heap.size := by simp [World.setCell]
        exact ⟨hk3.trans ((((KeepsOthers.setCell w3 _ _).trans (KeepsOthers.setCell _ _ _)).trans (KeepsOthers.alloc _ _)).from _), HN.out, (blk_old _ (by rw [pz]; exact z1)).trans p5, (blk_old _ (by rw [pz]; exact z2)).trans p6, p7.alloc p7.size _⟩
      | true =>
        have hk := k2 rfl
        have hn := hk.1
        obtain rfl : nd = md.length := hk.2.1
        obtain rfl : ne = me.length := hk.2.2.1
        have K2 := Lib.hid hk
        rw [hn, Option.map_some] at HM2
        have c4 := blk_cell q1 0
        have f4 := blk_frozen q1 0
        clear k1 k2 hk hn
        have hb4 : Below w3.heap.size w3 ((w3.alloc (.cells #[.int .i64 mk, .int .i64 ma, .int .i64 mb, .int .i64 mn, .int .i64 mo, .int .i64 mp, .int .i64 mt, .int .i64 mm, .int .i64 mr, .slice yd md.length ydc, .slice ye me.length yec] 39)).alloc (.cells #[.int .i64 mk, .int .i64 ma, .int .i64 mb, .int .i64 mn, .int .i64 mo, .int .i64 mp, .int .i64 mt, .int .i64 mm, .int .i64 mr, .slice yd md.length ydc, .slice ye me.length yec] 39)) := ((Below.refl _ _).alloc (Nat.le_refl _) _).alloc (by simp) _
        obtain ⟨xs, hx1, hx2, hx3⟩ := (h2.below hb3).below hb4
        gi_wp2_with (gi_at_builtin; go_must (refine appendIn _ rfl _ _ 22 rfl w0.heap.size 39 i0 (.agg #[.int .i64 0, .int .i64 0, .int .i64 0, .int .i64 0, .int .i64 0, .int .i64 0, .int .i64 0, .int .i64 0, .int .i64 0, .slice none 0 0, .slice none 0 0]) 11 120 Tryd.underlying22 hi hz0 hz1 hz2 rfl (by decide) _ _ _ rfl hx2 ⟨w3.heap.size + 1, 0, none⟩ 1 1 (cells ⟨mk, ma, mb, mn, mo, mp, mt, mm, mr, md, me⟩ ⟨yd, ydc, ye, yec⟩) rfl rfl (World.news_of_block (blk_two w3 _ _)) (cells_one _ _) (by decide) (by unfold maxLen; omega) (by omega) (by simp; omega) _ rfl ?_))
        intro g1 cap w4 hown4 hgrow4 hat4 hlt4
        have own_ne : ∀ k, k < w0.heap.size → some k ≠ (Value.slice g ms.length cp).ownBlock := fun k hk e => by have := (hx2.lt k e.symm).1; omega
        have a1 := (hgrow4.block (w.heap.size + 1 + 1) (by simp; omega) (own_ne _ (by omega))).trans ((hb4.block _ z3).trans q1)
        have a5 := (hgrow4.block (w.heap.size) (by simp; omega) (own_ne _ (by omega))).trans ((hb4.block _ z1).trans q5)
        have a6 := (hgrow4.block (w.heap.size + 1) (by simp; omega) (own_ne _ (by omega))).trans ((hb4.block _ z2).trans q6)
        have d4 := blk_cell a1 0
        have e4 := blk_frozen a1 0
        have HX := Lib.hid (And.intro hx1 (And.intro hx3 (And.intro hown4 (And.intro hgrow4 hat4))))
        have kap : KeepsOthers _ w4 := KeepsOthers.of_grownBy hgrow4 (fun j o e1 e2 => by
          rcases hx2.2 with ⟨hv, _⟩ | ⟨g', cap', cur, hv, _, hb, _⟩
          · rw [hv] at e1; cases e1
          · rw [hv] at e1
            simp [Value.ownBlock] at e1
            subst e1
            rw [hb] at e2; cases e2; rfl)
        have kbe : KeepsFrom w0.heap.size w3 _ := ⟨hb4.size, fun k o _ hk _ => (hb4.block k ((Array.getElem?_eq_some_iff.1 hk).1)).trans hk⟩
        have KF := Lib.hid ((hk3.trans kbe).trans (kap.from _))
        have B7 := Lib.hid ((q7.trans (hb4.mono q7.size)).grown hgrow4 (by have := q7.size; simp; omega) (fun i hi => Nat.le_trans (by omega) (hx2.lt i hi).1))
        have HBX := Lib.hid (((hbt.kept (Below.grown0 hb3) (fun r e => by cases e)).kept (Below.grown0 hb4) (fun r e => by cases e)).kept hgrow4 (fun r e => by have := (hx2.lt r e).1; omega))
        have k3 := K2.out.2.2.2
        have HPU := Lib.hid (MvRowF.push (W := _) (D := w0.heap.size) (t := 39) (cap := cap) (m := ⟨mk, ma, mb, mn, mo, mp, mt, mm, mr, md, me⟩) (x := ⟨yd, ydc, ye, yec⟩) hx1 hx3 ⟨k3.1.below hb4 hb4.size, k3.2.1.below hb4 hb4.size⟩ (fun _ ad e h => by have h1 := k3.2.2.1 ad e; have h2' := (h2.row.choose_spec.2.1.lt _ h.symm).2; omega) (fun _ ad e h => by have h1 := k3.2.2.2.1 ad e; have h2' := (h2.row.choose_spec.2.1.lt _ h.symm).2; omega) (fun _ ad e => by have h1 := k3.2.2.1 ad e; omega) (fun _ ad e => by have h1 := k3.2.2.2.1 ad e; omega) (by rw [hz]; exact hown4) hgrow4 (by simpa using hat4))
        have Q4 := Lib.hid (show (ms ++ [(⟨mk, ma, mb, mn, mo, mp, mt, mm, mr, md, me⟩ : Mv)]).length ≤ (pre ++ [x]).length by rw [List.length_append, List.length_append]; simp; exact h4)
        have QB := Lib.hid (show w.heap.size ≤ (⟨w.heap.size + 1 + 1, 0, none⟩ : Addr).block by show w.heap.size ≤ w.heap.size + 1 + 1; omega)
        clear hx1 hx3 hown4 hgrow4 hat4 c4 f4 kap kbe k3
        gi_wp2_with fail
        rw [← hz]
        refine ⟨KF.out.trans ((KeepsOthers.setCell w4 _ _).from _), ⟨ms ++ [⟨mk, ma, mb, mn, mo, mp, mt, mm, mr, md, me⟩], some ⟨g1, 0, none⟩, cap, ?_, HPU.out.lets (grownBy_setCell' w4 (w.heap.size + 1 + 1) _) (fun r e => by cases e; exact .inl (by omega)), HM2.out, Q4.out, (set_two (W := w4) (b := w.heap.size + 1 + 1) (j := w.heap.size) (by omega) _).trans a5, (set_two (W := w4) (b := w.heap.size + 1 + 1) (j := w.heap.size + 1) (by omega) _).trans a6, B7.out.setCell QB.out _⟩, HBX.out.set (by omega) _⟩
        rw [List.length_append, List.length_singleton]
        exact set_one a1 _
  case hdone =>
    rintro W ⟨ms, g, cp, h1, h2, h3, h4, h5, h6, h7⟩ hK
    rw [show Fm.readF = Fm.lineR from funext Fm.readF_eq] at h3
    dsimp only
    have hpar : pr = if 4096 < ms.length then ([], 24) else (ms, 0) := by
      rw [← HPR.out]
      unfold Fm.parse
      rw [h3]
    have HP2 := Lib.hid hpar
    have HK := Lib.hid hK
    have c4 := blk_cell h1 0
    have c2 := blk_cell h5 0
    have c3 := blk_cell h6 0
    have f2 := blk_frozen h5 0
    have f3 := blk_frozen h6 0
    clear hpar
    by_cases h40 : 4096 < ms.length
    · rw [if_pos h40] at HP2
      gi_wp2
      have q5 := (set_two (W := W.setCell ⟨w.heap.size, 0, none⟩ (.slice none 0 0)) (b := w.heap.size + 1) (j := w.heap.size) (by omega) (.int .i64 24)).trans (set_one h5 (.slice none 0 0))
      have q6 := set_one (b := w.heap.size + 1) ((set_two (W := W) (b := w.heap.size) (j := w.heap.size + 1) (by omega) (.slice none 0 0)).trans h6) (.int .i64 24)
      have qK := (set_two (W := W.setCell ⟨w.heap.size, 0, none⟩ (.slice none 0 0)) (b := w.heap.size + 1) (j := w0.heap.size) (by omega) (.int .i64 24)).trans ((set_two (W := W) (b := w.heap.size) (j := w0.heap.size) (by omega) (.slice none 0 0)).trans HK.out)
      have q7 : Below w.heap.size w ((W.setCell ⟨w.heap.size, 0, none⟩ (.slice none 0 0)).setCell ⟨w.heap.size + 1, 0, none⟩ (.int .i64 24)) := (h7.setCell (Nat.le_refl _) _).setCell (by simp) _
      have q8 := q7.grown (grownBy_putObj' _ w0.heap.size (.deferred none)) q7.size (fun r e => by cases e; omega)
      refine leave6 q5 q6 qK rfl rfl rfl (by omega) (by omega) ?_
      rw [HP2.out]
      exact ⟨none, 0, rfl, Moves.none_ _ _, q8⟩
    · rw [if_neg h40] at HP2
      have r1 := h2.lets (grownBy_setCell' W w.heap.size (.slice g ms.length cp)) (fun r e => by cases e; exact .inl (by omega))
      have r2 := r1.lets (grownBy_setCell' _ (w.heap.size + 1) (.int .i64 0)) (fun r e => by cases e; exact .inl (by omega))
      have R2 := Lib.hid r2
      clear r1 r2
      gi_wp2
      have q5 := (set_two (W := W.setCell ⟨w.heap.size, 0, none⟩ (.slice g ms.length cp)) (b := w.heap.size + 1) (j := w.heap.size) (by omega) (.int .i64 0)).trans (set_one h5 (.slice g ms.length cp))
      have q6 := set_one (b := w.heap.size + 1) ((set_two (W := W) (b := w.heap.size) (j := w.heap.size + 1) (by omega) (.slice g ms.length cp)).trans h6) (.int .i64 0)
      have qK := (set_two (W := W.setCell ⟨w.heap.size, 0, none⟩ (.slice g ms.length cp)) (b := w.heap.size + 1) (j := w0.heap.size) (by omega) (.int .i64 0)).trans ((set_two (W := W) (b := w.heap.size) (j := w0.heap.size) (by omega) (.slice g ms.length cp)).trans HK.out)
      have q7 : Below w.heap.size w ((W.setCell ⟨w.heap.size, 0, none⟩ (.slice g ms.length cp)).setCell ⟨w.heap.size + 1, 0, none⟩ (.int .i64 0)) := (h7.setCell (Nat.le_refl _) _).setCell (by simp) _
      have q8 := q7.grown (grownBy_putObj' _ w0.heap.size (.deferred none)) q7.size (fun r e => by cases e; omega)
      refine leave6 q5 q6 qK rfl rfl rfl (by omega) (by omega) ?_
      rw [HP2.out]
      exact ⟨g, cp, rfl, (R2.out.lets (grownBy_putObj' _ w0.heap.size (.deferred none)) (fun r e => by cases e; exact .inr ⟨_, qK, rfl⟩)).row.moves, q8⟩
  case hstop =>
    rintro pre W _ ⟨h4, h5, h6, h7⟩ hK
    dsimp only
    gi_wp2
    refine leave6 h5 h6 hK rfl rfl rfl (by omega) (by omega) ?_
    rw [← HPR.out, h4]
    exact ⟨none, 0, rfl, Moves.none_ _ _, h7.grown (grownBy_putObj' _ w0.heap.size (.deferred none)) h7.size (fun r e => by cases e; omega)⟩
end Go.Proofs.YtjcbfbdbgplakaaDoor
