/-
  SMALL AIDS OF THE WALKS: elements' types, a slice's bytes as a string, one new cell, a string's bytes and cuts, what is handed back.
-/
import Derived.WalkSpells
import Derived.WalkLawsBesides
import Derived.Outline
import Derived.Deep.DeepFit
import Derived.Deep.DeepMust
import Derived.Laws.IdiomStrings
import Derived.Laws.BytesArg
import Derived.BigQuiet
import Derived.Deep.QuietTactic
import Derived.Deep.RegionLaw
import Derived.Test.YtjcbfbdbgplakaaDoorBase
namespace Go.Proofs.YtjcbfbdbgplakaaDoor
open Go.RowKit
open Fm (Bs Mv)
theorem info5 : (Tryd.prog.info? 5).map (fun i => (i.zero, i.size, i.bytes)) = some (some (.int .u8 0), 1, 1) := by kernel_rfl
theorem info4 : (Tryd.prog.info? 4).map (fun i => (i.zero, i.size, i.bytes)) = some (some (.bool false), 1, 1) := by kernel_rfl
theorem info9 : (Tryd.prog.info? 9).map (fun i => (i.zero, i.size, i.bytes)) = some (some (.string ByteArray.empty), 1, 16) := by kernel_rfl
theorem run_bytes_string {w : World} {B : Nat} {A : Option Addr} {l : Bs} (c : Nat) (h : Bytes w B A l) :
    (convert 32 9 (.slice A l.length c)).run Tryd.prog w = .ok (.string (str l)) w := by
  cases l with
  | nil =>
    rcases A with _ | ad
    · exact run_convert_bytes_nil w 32 5 Tryd.underlying32 Tryd.underlying5 _ _ 9 Tryd.underlying9
    · exact run_convert_bytes_back w 32 9 5 ad c [] Tryd.underlying32 Tryd.underlying5 Tryd.underlying9 (fun j hj => absurd hj (by simp))
  | cons x r =>
    obtain ⟨ad, rfl, _, hc⟩ := h.2 (by simp)
    exact run_convert_bytes_back w 32 9 5 ad c (x :: r) Tryd.underlying32 Tryd.underlying5 Tryd.underlying9 (fun j hj => hc j _ (u8s_at _ j hj))
theorem one_cell (w : World) (v : Value) (t : TypeId) : ∀ j u, [v][j]? = some u → (w.alloc (.cells #[v] t)).cell? ((⟨w.heap.size, 0, none⟩ : Addr).add j) = some u := by
  intro j u hj
  match j, hj with
  | 0, hj => simp at hj; subst hj; simp [Addr.add]
theorem u8_one (n : Int) : ∀ u ∈ [Value.int .u8 n], u.oneCell' = true := by intro u hu; simp at hu; subst hu; rfl
theorem u8_two (n m : Int) : ∀ u ∈ [Value.int .u8 n, Value.int .u8 m], u.oneCell' = true := by intro u hu; simp at hu; rcases hu with rfl | rfl <;> rfl
theorem bl_one (b : Bool) : ∀ u ∈ [Value.bool b], u.oneCell' = true := by intro u hu; simp at hu; subst hu; rfl
theorem st_one (b : ByteArray) : ∀ u ∈ [Value.string b], u.oneCell' = true := by intro u hu; simp at hu; subst hu; rfl
theorem u8s_take (l : Bs) (k : Nat) (h : k < l.length) : u8s (l.take (k + 1)) = u8s (l.take k) ++ [.int .u8 (l[k].toNat : Int)] := by
  unfold u8s; rw [List.take_succ_eq_append_getElem h, List.map_append, List.map_singleton]
theorem bls_snoc (l : List Bool) (b : Bool) : bls (l ++ [b]) = bls l ++ [.bool b] := by simp [bls]
theorem str_idx (l : Bs) (k : IntKind) (i : Nat) (h : i < l.length) (W : World) : (Instr.index 9 (.string (str l)) (.int k (i : Int))).run Tryd.prog W = .ok (.int .u8 (l[i].toNat : Int)) W := by
  rw [run_index_string W 9 _ k (i : Int) Tryd.underlying9, dif_pos ⟨by omega, by rw [str_size]; omega⟩]
  rfl
theorem str_cut (s : Bs) (a b : Nat) (hab : a ≤ b) (hb : b ≤ s.length) (W : World) : (Instr.slice 9 (.string (str s)) (some (.int .i64 (a : Int))) (some (.int .i64 (b : Int))) none).run Tryd.prog W = .ok (.string (str ((s.take b).drop a))) W := by
  rw [run_slice_string W 9 _ .i64 .i64 (a : Int) (b : Int) Tryd.underlying9 (by omega) (by omega) (by rw [str_size]; omega)]
  congr 2
  apply ByteArray.ext
  simp [str, List.drop_take]
def sts (l : List Bs) : List Value := l.map fun x => .string (str x)
theorem sts_snoc (l : List Bs) (x : Bs) : sts (l ++ [x]) = sts l ++ [.string (str x)] := by simp [sts]
/-- What is handed back is a slice of these strings. -/
def StrsPost (l : List Bs) (w : World) (e : Ending) (w' : World) : Prop := ∃ A c, e = .returned (.slice A l.length c) ∧ Rd w' w'.heap.size 1 A l.length (sts l) ∧ Below w.heap.size w w'
theorem sts_len (l : List Bs) : (sts l).length = l.length := by simp [sts]
/-- A slice that lies from block B on. -/
def Fr (B : Nat) (A : Option Addr) : Prop := ∀ ad, A = some ad → B ≤ ad.block
theorem Fr.none_ (B : Nat) : Fr B none := fun _ h => by cases h
theorem Fr.own {w : World} {B : Nat} {e : TypeId} {size n c : Nat} {A : Option Addr} {xs : List Value} (h : w.ownsRow B e size (.slice A n c) n xs) : Fr B A := by
  rintro ad rfl
  rcases h.2 with ⟨h, _⟩ | ⟨g, cap, cur, hv, hg, _⟩
  · cases h
  · injection hv with h1
    injection h1 with h1
    subst h1
    exact hg
/-- What lies from block B on reads as it did where only blocks below B are written. -/
theorem Rd.fresh {w w' : World} {B C C' size n : Nat} {A : Option Addr} {xs : List Value} (h : Rd w C size A n xs) (hf : Fr B A) (hk : ∀ p : Addr, B ≤ p.block → p.block < C → w'.cell? p = w.cell? p) (hC : C ≤ C') : Rd w' C' size A n xs :=
  ⟨h.1, fun hn => by
    obtain ⟨ad, e, hb, hc⟩ := h.2 hn
    have hB := hf ad e
    exact ⟨ad, e, by omega, fun j u hu => (hk _ (by rw [add_block]; exact hB) (by rw [add_block]; exact hb)).trans (hc j u hu)⟩⟩

/-- What is handed back is a slice of these bools. -/
def BoolsPost (l : List Bool) (w : World) (e : Ending) (w' : World) : Prop := ∃ A c, e = .returned (.slice A l.length c) ∧ Bools w' w'.heap.size A l ∧ Fr w.heap.size A ∧ Below w.heap.size w w'
/-- What is handed back is a slice of these bytes. -/
def BytesPost (l : Bs) (w : World) (e : Ending) (w' : World) : Prop := ∃ A c, e = .returned (.slice A l.length c) ∧ Bytes w' w'.heap.size A l ∧ Fr w.heap.size A ∧ Below w.heap.size w w'
theorem u8_eq (x : UInt8) (n : UInt8) : x = n ↔ x.toNat = n.toNat := ⟨fun h => by rw [h], fun h => UInt8.toNat.inj h⟩
theorem bdrewN {B : Nat} {a w : World} (h : Below B a w) (n : Nat) : Below B a (w.drewN n) := ⟨h.os, h.tape, h.output, h.size, h.block⟩
end Go.Proofs.YtjcbfbdbgplakaaDoor
