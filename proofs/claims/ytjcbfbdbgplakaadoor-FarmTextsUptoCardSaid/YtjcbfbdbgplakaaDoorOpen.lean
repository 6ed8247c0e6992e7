/-
  OPENING: what the readings of FarmTexts' two arguments say of the memory: a string, a slice of moves; how long they are at most; and the row's listed variables.
-/
import Derived.Test.YtjcbfbdbgplakaaDoorW18
import Derived.Test.YtjcbfbdbgplakaaDoorCards
import Derived.Carry
import Derived.Deep.Slices
import Derived.LaidLaws
import Derived.LaidSub
import Derived.Lib.LaidTab
namespace Go.Proofs.YtjcbfbdbgplakaaDoor
open Go.ChangeShapes Go.WideShapes Go.RowKit Go.Deep
open Fm (Bs Mv)

theorem bulk_pos {H : Type} (d : DataW H) : 1 ≤ Rows.uptoBulk d := by
  cases d with
  | lit l => cases l <;> simp [Rows.uptoBulk]
  | _ => simp [Rows.uptoBulk]
theorem bulkAll_append {H : Type} : ∀ a b : List (DataW H), Rows.uptoBulkAll (a ++ b) = Rows.uptoBulkAll a + Rows.uptoBulkAll b
  | [], b => by simp [Rows.uptoBulkAll]
  | x :: a, b => by simp [Rows.uptoBulkAll, bulkAll_append a b]; omega
theorem bulkAll_len {H : Type} : ∀ l : List (DataW H), l.length ≤ Rows.uptoBulkAll l
  | [] => by simp
  | x :: l => by
    have := bulkAll_len l
    have := bulk_pos x
    simp only [List.length_cons, Rows.uptoBulkAll]; omega
theorem bulkAll_mem {H : Type} : ∀ (l : List (DataW H)) (d : DataW H), d ∈ l → Rows.uptoBulk d ≤ Rows.uptoBulkAll l
  | x :: l, d, h => by
    simp only [Rows.uptoBulkAll]
    rcases List.mem_cons.1 h with rfl | h
    · omega
    · have := bulkAll_mem l d h; omega

theorem flat_length {α : Type} (k : Nat) (f : α → List Value) (hf : ∀ x, (f x).length = k) : ∀ l : List α, (l.flatMap f).length = l.length * k
  | [] => by simp
  | x :: l => by
    rw [List.flatMap_cons, List.length_append, hf, flat_length k f hf l, List.length_cons, Nat.succ_mul]
    omega
section
variable {H : Type} {enc : TypeId × Value → H} {w : World}

/-- A slice of bytes. -/
theorem bytes_open {fuel : Nat} {cs : List Value} {x : DataW H × List MemPlace} (h : DataW.trod enc Tryd.prog w 0 (fun _ => true) true fuel 32 cs = some x) :
    ∃ (A : Option Addr) (c : Nat) (l : Bs), cs = [.slice A l.length c] ∧ Bytes w w.heap.size A l ∧ l.length + 1 ≤ Rows.uptoBulk x.1 := by
  rcases open_slice1 Tryd.underlying32 (by kernel_rfl) h with ⟨rfl, rfl⟩ | ⟨a, len, cap, m, n, V, D, Pl, rfl, _, hl, _, hm, rfl, hx⟩
  · exact ⟨none, 0, [], rfl, Rd.nil, by simp [Rows.uptoBulk]⟩
  · have key : ∀ i, i < len → ∃ b : UInt8, V i = .int .u8 (b.toNat : Int) := fun i hi => by
      obtain ⟨_, ht⟩ := hx i (by rw [hm]; simp; omega)
      obtain ⟨z, e, _, hw⟩ := DataW.trod_int Tryd.underlying5 ht
      simp only [List.cons.injEq, and_true] at e
      simp [Lit.wf, IntKind.min, IntKind.max, IntKind.signed, IntKind.bits] at hw
      refine ⟨UInt8.ofNat z.toNat, ?_⟩
      rw [e]
      have : (UInt8.ofNat z.toNat).toNat = z.toNat := by rw [UInt8.toNat_ofNat']; omega
      rw [this]
      congr 1
      omega
    obtain ⟨f, hf⟩ := choose_lt key
    refine ⟨some a, cap, (List.range len).map f, by simp, ?_, ?_⟩
    · refine ⟨by simp [u8s], fun hn => ⟨a, rfl, ?_, fun j u hu => ?_⟩⟩
      · have h0 := (hx 0 (by rw [hm]; simp at hn ⊢; omega)).1
        simpa [Addr.add] using World.block_lt_of_cell? w _ h0
      · have hj : j < len := by
          have := (List.getElem?_eq_some_iff.1 hu).1
          simpa [u8s] using this
        simp [u8s, hj] at hu
        rw [(hx j (by rw [hm]; simp; omega)).1, hf j hj, hu]
    · have := bulkAll_len (H := H) ((List.range len).map D)
      simp only [Rows.uptoBulk, List.length_map, List.length_range] at this ⊢
      omega
/-- A slice of bools. -/
theorem bools_open {fuel : Nat} {cs : List Value} {x : DataW H × List MemPlace} (h : DataW.trod enc Tryd.prog w 0 (fun _ => true) true fuel 35 cs = some x) :
    ∃ (A : Option Addr) (c : Nat) (l : List Bool), cs = [.slice A l.length c] ∧ Bools w w.heap.size A l ∧ l.length + 1 ≤ Rows.uptoBulk x.1 := by
  rcases open_slice1 Tryd.underlying35 (by kernel_rfl) h with ⟨rfl, rfl⟩ | ⟨a, len, cap, m, n, V, D, Pl, rfl, _, hl, _, hm, rfl, hx⟩
  · exact ⟨none, 0, [], rfl, Rd.nil, by simp [Rows.uptoBulk]⟩
  · have key : ∀ i, i < len → ∃ b : Bool, V i = .bool b := fun i hi => by
      obtain ⟨_, ht⟩ := hx i (by rw [hm]; simp; omega)
      obtain ⟨z, e, _⟩ := DataW.trod_bool Tryd.underlying4 ht
      simp only [List.cons.injEq, and_true] at e
      exact ⟨z, e⟩
    obtain ⟨f, hf⟩ := choose_lt key
    refine ⟨some a, cap, (List.range len).map f, by simp, ?_, ?_⟩
    · refine ⟨by simp [bls], fun hn => ⟨a, rfl, ?_, fun j u hu => ?_⟩⟩
      · have h0 := (hx 0 (by rw [hm]; simp at hn ⊢; omega)).1
        simpa [Addr.add] using World.block_lt_of_cell? w _ h0
      · have hj : j < len := by
          have := (List.getElem?_eq_some_iff.1 hu).1
          simpa [bls] using this
        simp [bls, hj] at hu
        rw [(hx j (by rw [hm]; simp; omega)).1, hf j hj, hu]
    · have := bulkAll_len (H := H) ((List.range len).map D)
      simp only [Rows.uptoBulk, List.length_map, List.length_range] at this ⊢
      omega
theorem int_open {fuel : Nat} {cs : List Value} {x : DataW H × List MemPlace} (h : DataW.trod enc Tryd.prog w 0 (fun _ => true) true fuel 3 cs = some x) : ∃ z, cs = [.int .i64 z] := by
  obtain ⟨z, e, _⟩ := DataW.trod_int Tryd.underlying3 h
  exact ⟨z, e⟩
theorem one_of_eq {α : Type} {l : List α} {k : Nat} {v : α} (h : (l.drop k).take 1 = [v]) : l[k]? = some v := by
  have : ((l.drop k).take 1)[0]? = some v := by rw [h]; rfl
  simpa using this
set_option maxRecDepth 100000 in
/-- A move. -/
theorem move_open {fuel : Nat} {cs : List Value} {x : DataW H × List MemPlace} (h : DataW.trod enc Tryd.prog w 0 (fun _ => true) true fuel 39 cs = some x) :
    ∃ (m : Mv) (y : At), cs = cells m y ∧ Mem w w.heap.size m y ∧ m.d.length + m.e.length ≤ Rows.uptoBulk x.1 := by
  obtain ⟨xs, n, _, rfl, hcl, hxl, hf⟩ := DataW.trod_struct Tryd.underlying39 h
  have hcl' : cs.length = 11 := hcl.trans (by kernel_rfl)
  have c3 : Tryd.prog.cellsOf 3 = 1 := by kernel_rfl
  have c34 : Tryd.prog.cellsOf 34 = 6 := by kernel_rfl
  have c35 : Tryd.prog.cellsOf 35 = 1 := by kernel_rfl
  have c32 : Tryd.prog.cellsOf 32 = 1 := by kernel_rfl
  match xs, hxl with
  | [x0, x1, x2, x3, x4, x5], _ =>
    have f0 : DataW.trod enc Tryd.prog w 0 (fun _ => true) true n 3 ((cs.drop 0).take (Tryd.prog.cellsOf 3)) = some x0 := hf 0 _ rfl
    have f1 : DataW.trod enc Tryd.prog w 0 (fun _ => true) true n 3 ((cs.drop 1).take (Tryd.prog.cellsOf 3)) = some x1 := hf 1 _ rfl
    have f2 : DataW.trod enc Tryd.prog w 0 (fun _ => true) true n 3 ((cs.drop 2).take (Tryd.prog.cellsOf 3)) = some x2 := hf 2 _ rfl
    have f3 : DataW.trod enc Tryd.prog w 0 (fun _ => true) true n 3 ((cs.drop 3).take (Tryd.prog.cellsOf 3)) = some x3 := hf 3 _ rfl
    have f4 : DataW.trod enc Tryd.prog w 0 (fun _ => true) true n 34 ((cs.drop 4).take (Tryd.prog.cellsOf 34)) = some x4 := hf 4 _ rfl
    have f5 : DataW.trod enc Tryd.prog w 0 (fun _ => true) true n 35 ((cs.drop 10).take (Tryd.prog.cellsOf 35)) = some x5 := hf 5 _ rfl
    rw [c3] at f0 f1 f2 f3
    rw [c34] at f4
    rw [c35] at f5
    obtain ⟨k, e0⟩ := int_open f0
    obtain ⟨a, e1⟩ := int_open f1
    obtain ⟨b, e2⟩ := int_open f2
    obtain ⟨nn, e3⟩ := int_open f3
    obtain ⟨E, ec, e, e10, hE, hEb⟩ := bools_open f5
    obtain ⟨ys, n', _, hy, _, hyl, hg⟩ := DataW.trod_struct Tryd.underlying34 f4
    match ys, hyl with
    | [y0, y1, y2, y3, y4, y5], _ =>
      have g0 : DataW.trod enc Tryd.prog w 0 (fun _ => true) true n' 3 ((((cs.drop 4).take 6).drop 0).take (Tryd.prog.cellsOf 3)) = some y0 := hg 0 _ rfl
      have g1 : DataW.trod enc Tryd.prog w 0 (fun _ => true) true n' 3 ((((cs.drop 4).take 6).drop 1).take (Tryd.prog.cellsOf 3)) = some y1 := hg 1 _ rfl
      have g2 : DataW.trod enc Tryd.prog w 0 (fun _ => true) true n' 3 ((((cs.drop 4).take 6).drop 2).take (Tryd.prog.cellsOf 3)) = some y2 := hg 2 _ rfl
      have g3 : DataW.trod enc Tryd.prog w 0 (fun _ => true) true n' 3 ((((cs.drop 4).take 6).drop 3).take (Tryd.prog.cellsOf 3)) = some y3 := hg 3 _ rfl
      have g4 : DataW.trod enc Tryd.prog w 0 (fun _ => true) true n' 3 ((((cs.drop 4).take 6).drop 4).take (Tryd.prog.cellsOf 3)) = some y4 := hg 4 _ rfl
      have g5 : DataW.trod enc Tryd.prog w 0 (fun _ => true) true n' 32 ((((cs.drop 4).take 6).drop 5).take (Tryd.prog.cellsOf 32)) = some y5 := hg 5 _ rfl
      rw [c3] at g0 g1 g2 g3 g4
      rw [c32] at g5
      obtain ⟨o, e4⟩ := int_open g0
      obtain ⟨p, e5⟩ := int_open g1
      obtain ⟨t, e6⟩ := int_open g2
      obtain ⟨mm, e7⟩ := int_open g3
      obtain ⟨r, e8⟩ := int_open g4
      obtain ⟨D, dc, d, e9, hD, hDb⟩ := bytes_open g5
      match cs, hcl' with
      | [v0, v1, v2, v3, v4, v5, v6, v7, v8, v9, v10], _ =>
        simp at e0 e1 e2 e3 e4 e5 e6 e7 e8 e9 e10
        subst e0 e1 e2 e3 e4 e5 e6 e7 e8 e9 e10
        refine ⟨⟨k, a, b, nn, o, p, t, mm, r, d, e⟩, ⟨D, dc, E, ec⟩, rfl, ⟨hD, hE⟩, ?_⟩
        have h4 : Rows.uptoBulk y5.1 ≤ Rows.uptoBulk x4.1 := by
          rw [hy]
          simp only [Rows.uptoBulk, List.map_cons, List.map_nil, Rows.uptoBulkAll]
          omega
        simp only [Rows.uptoBulk, List.map_cons, List.map_nil, Rows.uptoBulkAll]
        show d.length + e.length ≤ _
        omega
set_option maxRecDepth 100000 in
/-- A slice of moves. -/
theorem moves_open {v : Value} {d : DataW H} {p : List MemPlace} (hv : ∃ a len cap, v = .slice a len cap) (h : DataW.Trod enc Tryd.prog w 0 (fun _ => true) true 22 v d p) :
    ∃ (A : Option Addr) (c : Nat) (ms : List Mv), v = .slice A ms.length c ∧ Moves w w.heap.size A ms.length ms ∧ (∀ m ∈ ms, m.d.length + m.e.length ≤ Rows.uptoBulk d) ∧ ms.length ≤ Rows.uptoBulk d := by
  obtain ⟨a0, len0, cap0, rfl⟩ := hv
  obtain ⟨fuel, hf⟩ := h
  have c39 : Tryd.prog.cellsOf 39 = 11 := by kernel_rfl
  rcases open_slice Tryd.underlying22 hf with ⟨hcs, hx⟩ | ⟨a, len, cap, m, n, D, Pl, hcs, _, hl, _, hm, hx, hi⟩
  · simp [Value.cells] at hcs
    obtain ⟨rfl, rfl, rfl⟩ := hcs
    exact ⟨none, 0, [], rfl, ⟨[], rfl, rfl, Rd.nil, fun y hy => by simp at hy⟩, by simp, by simp⟩
  · simp [Value.cells] at hcs
    obtain ⟨rfl, rfl, rfl⟩ := hcs
    simp only [Prod.mk.injEq] at hx
    obtain ⟨rfl, rfl⟩ := hx
    simp only [if_true] at hm
    rw [c39] at hi
    have key : ∀ i, i < len0 → ∃ y : Mv × At, w.cells? 0 (a.add (i * 11)) 11 = some (cells y.1 y.2) ∧ Mem w w.heap.size y.1 y.2 ∧ y.1.d.length + y.1.e.length ≤ Rows.uptoBulk (D i) := fun i hi0 => by
      obtain ⟨cs', h1, h2⟩ := hi i (by omega)
      obtain ⟨mv, y, rfl, h3, h4⟩ := move_open h2
      exact ⟨(mv, y), h1, h3, h4⟩
    haveI : Inhabited (Mv × At) := ⟨(⟨0, 0, 0, 0, 0, 0, 0, 0, 0, [], []⟩, ⟨none, 0, none, 0⟩)⟩
    obtain ⟨f, hff⟩ := choose_lt key
    have bD : ∀ i, i < len0 → Rows.uptoBulk (D i) ≤ Rows.uptoBulkAll ((List.range len0).map D) := fun i h => bulkAll_mem _ _ (List.mem_map.2 ⟨i, List.mem_range.2 h, rfl⟩)
    refine ⟨some a, cap0, (List.range len0).map (fun i => (f i).1), by simp, ⟨(List.range len0).map (fun i => (f i).2), by simp, rfl, ?_, ?_⟩, ?_, ?_⟩
    · have hz : ((List.range len0).map (fun i => (f i).1)).zip ((List.range len0).map (fun i => (f i).2)) = (List.range len0).map f := by
        rw [List.zip_map']
      rw [hz]
      refine ⟨?_, fun hn => ⟨a, rfl, ?_, fun j u hu => ?_⟩⟩
      · rw [flat_length 11 _ (fun y : Mv × At => cells_len y.1 y.2)]
        simp
      · have h0 := (hff 0 (by simpa using hn)).1
        have := World.cells?_block h0 (by omega)
        simpa [Addr.add] using this
      · have hj : j < len0 * 11 := by
          have := (List.getElem?_eq_some_iff.1 hu).1
          rw [flat_length 11 _ (fun y : Mv × At => cells_len y.1 y.2)] at this
          simpa using this
        have hq : j / 11 < len0 := by omega
        have h1 := (hff (j / 11) (by omega)).1
        obtain ⟨_, _, hc⟩ := World.cells?_some h1
        have h2 := hc (j % 11) (Nat.mod_lt _ (by omega))
        have h3 := flat_at 11 (fun y : Mv × At => cells y.1 y.2) (fun y => cells_len y.1 y.2) ((List.range len0).map f) (j / 11) (j % 11) (f (j / 11)) (by simp [hq]) (Nat.mod_lt _ (by omega))
        rw [show j / 11 * 11 + j % 11 = j by omega] at h3
        rw [h3] at hu
        rw [hu] at h2
        rw [add_add', show j / 11 * 11 + j % 11 = j by omega] at h2
        exact h2
    · intro y hy
      rw [List.zip_map'] at hy
      obtain ⟨i, hi1, rfl⟩ := List.mem_map.1 hy
      exact (hff i (List.mem_range.1 hi1)).2.1
    · intro m0 hm0
      obtain ⟨i, hi1, rfl⟩ := List.mem_map.1 hm0
      have h1 := (hff i (List.mem_range.1 hi1)).2.2
      have h2 := bD i (List.mem_range.1 hi1)
      simp only [Rows.uptoBulk]
      omega
    · have := bulkAll_len (H := H) ((List.range len0).map D)
      simp only [Rows.uptoBulk, List.length_map, List.length_range] at this ⊢
      omega
end
end Go.Proofs.YtjcbfbdbgplakaaDoor
