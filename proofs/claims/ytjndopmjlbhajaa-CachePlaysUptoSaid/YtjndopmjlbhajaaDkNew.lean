/- A new disk: disk.New; what Write refuses. No condition. -/
import Derived.Test.YtjndopmjlbhajaaDkWrs
namespace Go.Proofs.Ytjndopmjlbhajaa
open Go.RowKit Go.Maps

def newD (n : Nat) : Dsk := ⟨n, fun _ => List.replicate 256 0, fun _ => [], false, 0⟩
def zeros93 (n : Nat) : List Value := List.replicate (n * 256) (.int .u8 0)
theorem made93 (n : Nat) : madeCells (bvs (List.replicate 256 0)).toArray (n * 256) = (zeros93 n).toArray := by
  have hb : bvs (List.replicate 256 (0 : UInt8)) = List.replicate 256 (Value.int .u8 0) := by
    simp only [bvs, List.map_replicate]
    rfl
  rw [hb]
  apply Array.ext
  · rw [size_madeCells, List.size_toArray, zeros93, List.length_replicate]
  · intro i h1 h2
    rw [size_madeCells] at h1
    have hm : i % 256 < 256 := Nat.mod_lt _ (by omega)
    have e : (List.replicate 256 (Value.int .u8 0)).toArray.size = 256 := by rw [List.size_toArray, List.length_replicate]
    simp only [madeCells, Array.getElem_map, Array.getElem_range, zeros93, List.getElem_toArray, List.getElem_replicate]
    rw [e]
    rw [getElem!_pos _ _ (by rw [e]; exact hm)]
    simp only [List.getElem_toArray, List.getElem_replicate]
theorem make93 (n : Nat) (hn : n ≤ 4096) (w : World) : (Instr.makeSlice 61 (.int .i64 (n : Int)) (.int .i64 (n : Int))).run Try.prog w = .ok (.slice (some ⟨w.heap.size, 0, none⟩) n n) (w.alloc (.cells (zeros93 n).toArray 100)) := by
  obtain ⟨i, hi, hz, hsz, hby⟩ := info_parts info93f
  have h := run_make (P := Try.prog) w 61 100 i _ Try.underlying61 hi hz .i64 .i64 n n (by omega) (Int.le_refl _) (by rw [hby]; omega) (by omega)
  rw [hsz, Int.toNat_natCast] at h
  rw [h]
  have := made93 n
  rw [← this]
  rfl

theorem Dk.init {w : World} {n : Nat} (hn : 1 ≤ n ∧ n ≤ 4096) :
    Dk (((w.alloc (.cells (zeros93 n).toArray 100)).alloc (.map #[] 0)).alloc (.cells #[.slice (some ⟨w.heap.size, 0, none⟩) n n, .map (some (w.heap.size + 1)), .bool false, .int .i64 0] 64)) w.heap.size ⟨w.heap.size + 2, w.heap.size, w.heap.size + 1, fun _ => ⟨none, 0⟩, n⟩ (newD n) := by
  have hL : Blk (((w.alloc (.cells (zeros93 n).toArray 100)).alloc (.map #[] 0)).alloc (.cells #[.slice (some ⟨w.heap.size, 0, none⟩) n n, .map (some (w.heap.size + 1)), .bool false, .int .i64 0] 64)) w.heap.size 100 (zeros93 n) := ((Blk.new w _ (zeros93 n)).alloc _).alloc _
  have hM := ((World.ownsMap_made (H := Value) (w.alloc (.cells (zeros93 n).toArray 100)) Try.prog 3 RV).alloc (.cells #[.slice (some ⟨w.heap.size, 0, none⟩) n n, .map (some (w.heap.size + 1)), .bool false, .int .i64 0] 64)).mono (Nat.zero_le n)
  have e1 : (w.alloc (.cells (zeros93 n).toArray 100)).heap.size = w.heap.size + 1 := by simp
  rw [e1] at hM
  refine ⟨Blk.new_at (cs := [.slice (some ⟨w.heap.size, 0, none⟩) n n, .map (some (w.heap.size + 1)), .bool false, .int .i64 0]) (by simp), by simp; omega, fun k hk => ?_, fun j hj => ?_, ⟨.map [], hM, fun k _ => rfl, fun x hx => by simp [has] at hx⟩, fun k hk => Own.nil_ _ _ _ _, fun k _ => rfl, fun j k _ => .inl rfl, fun k e => (by cases e), fun k hk => ⟨List.length_replicate, fun x hx => (by cases hx)⟩, hn, ⟨by show (_ : Int) ≤ 0; omega, by show (0 : Int) ≤ _; omega⟩, ⟨by simp, Nat.le_refl _, by simp⟩, ⟨by simp, by simp, by simp⟩, ⟨_, hL⟩⟩
  · have hk' : k < n := hk
    intro j v hv
    have hj : j < 256 := by
      have h1 := (List.getElem?_eq_some_iff.1 hv).1
      rw [length_bvs] at h1
      have h2 : ((newD n).lies k).length = 256 := List.length_replicate
      omega
    rw [hL.cell]
    rw [zeros93, List.getElem?_replicate, if_pos (by omega)]
    rw [← hv]
    simp only [newD, bvs, List.map_replicate, List.getElem?_replicate]
    rw [if_pos hj]
    rfl
  · have hj' : j < n * 256 := hj
    rw [Nat.zero_add]
    refine ⟨?_, hL.frozen j⟩
    rw [hL.cell, zeros93, List.getElem?_replicate, if_pos hj']
    rfl

set_option maxRecDepth 100000 in
set_option maxHeartbeats 1000000 in
theorem dnew_ok (n : Nat) (hn : 1 ≤ n ∧ n ≤ 4096) (w : World) :
    Calls Try.prog 8 #[.int .i64 n] w fun e w' => ∃ d, e = .returned (.tuple #[.pointer (some ⟨d.g, 0, none⟩), .int .i64 0]) ∧ Dk w' w.heap.size d (newD n) ∧ Below w.heap.size w w' := by
  have hmk := make93 n hn.2 w
  have hmm := @run_makeMap Try.prog
  have d1 : decide ((n : Int) < 1) = false := decide_eq_false (by omega)
  have d2 : decide ((4096 : Int) < (n : Int)) = false := decide_eq_false (by omega)
  have HI := Lib.hid (Dk.init (w := w) hn)
  clear hn
  go_enter Try.func8, Try.ntmps8
  go_wp2
  go_ret2
  exact ⟨_, rfl, HI.out, (((Below.refl _ _).alloc (Nat.le_refl _) _).alloc (by simp) _).alloc (by simp; omega) _⟩

set_option maxHeartbeats 1000000 in
theorem dwrite_far {w : World} {base : Nat} {d : Dw} {s : Dsk} (h : Dk w base d s) {k : Int} (hk : k < 0 ∨ (s.n : Int) ≤ k) (x : Value) :
    Calls Try.prog 29 #[.pointer (some ⟨d.g, 0, none⟩), .int .i64 k, x] w fun e w' => e = .returned (.int .i64 2) ∧ w' = w := by
  have bc := h.blk.cells
  clear h
  by_cases h0 : k < 0
  · go_enter Try.func29, Try.ntmps29
    go_wp2
    go_ret
    exact ⟨rfl, rfl⟩
  · have d1 : decide ((s.n : Int) ≤ k) = true := decide_eq_true (by omega)
    clear hk
    go_enter Try.func29, Try.ntmps29
    go_wp2
    go_ret
    exact ⟨rfl, rfl⟩
set_option maxHeartbeats 1000000 in
theorem dwrite_bad {w : World} {base : Nat} {d : Dw} {s : Dsk} (h : Dk w base d s) {k : Nat} (hk : k < s.n) {A : Option Addr} {m c : Nat} (hm : ¬ m = 256) :
    Calls Try.prog 29 #[.pointer (some ⟨d.g, 0, none⟩), .int .i64 k, .slice A m c] w fun e w' => e = .returned (.int .i64 1) ∧ w' = w := by
  have bc := h.blk.cells
  have d1 : decide ((s.n : Int) ≤ (k : Int)) = false := decide_eq_false (by omega)
  have e1 : ((m : Int) == 256) = false := beq_eq_false_iff_ne.2 (by omega)
  have e2 : ¬ (m : Int) = 256 := by omega
  clear h
  go_enter Try.func29, Try.ntmps29
  go_wp2
  go_ret
  exact ⟨rfl, rfl⟩
end Go.Proofs.Ytjndopmjlbhajaa
