/- cut.gears: the numbers of the bytes that stand somewhere. -/
import Derived.Test.YtgfmpgflbphpcaaGear
namespace Go.Proofs.Ytgfmpgflbphpcaa
open Go.RowKit

def hads (l : List UInt8) : List Value := (List.range 256).map fun k => .bool (decide (UInt8.ofNat k ∈ l))
theorem length_hads (l : List UInt8) : (hads l).length = 256 := by simp [hads]
theorem hads_get (l : List UInt8) (b : UInt8) : (hads l)[b.toNat]? = some (.bool (decide (b ∈ l))) := by
  have h := b.toNat_lt
  rw [hads, List.getElem?_map, List.getElem?_range (by omega)]
  simp
theorem hads_nil : hads [] = List.replicate 256 (.bool false) := by
  rw [hads, List.eq_replicate_iff]
  simp
theorem hads_snoc (l : List UInt8) (b : UInt8) : (hads l).set b.toNat (.bool true) = hads (l ++ [b]) := by
  apply List.ext_getElem
  · simp [length_hads]
  · intro i h1 h2
    have hi : i < 256 := by simpa [length_hads] using h2
    rw [List.getElem_set]
    simp only [hads, List.getElem_map, List.getElem_range, List.mem_append, List.mem_singleton]
    by_cases e : b.toNat = i
    · subst e
      simp
    · have hne : ¬ UInt8.ofNat i = b := by
        rintro rfl
        exact e (by rw [UInt8.toNat_ofNat']; omega)
      rw [if_neg e]
      simp [hne]
theorem hads_same (l : List UInt8) (b : UInt8) (h : b ∈ l) : hads (l ++ [b]) = hads l := by
  unfold hads
  apply List.map_congr_left
  intro k _
  by_cases e : UInt8.ofNat k ∈ l
  · simp [e]
  · have hne : ¬ UInt8.ofNat k = b := by rintro rfl; exact e h
    simp [e, hne]
theorem us_tab_get (l : List UInt8) (b : UInt8) : (us (tab l))[b.toNat]? = some (.int .u32 ((if b ∈ l then gearN b else 0 : Nat) : Int)) := by
  rw [us_get (tab l) b.toNat (by rw [length_tab]; exact b.toNat_lt), tab_get]
theorem zero64 (w : World) : (zeroValue 64).run Try.prog w = .ok (.agg (zu 256).toArray) w := by kernel_rfl
theorem zero67 (w : World) : (zeroValue 67).run Try.prog w = .ok (.agg (List.replicate 256 (Value.bool false)).toArray) w := by kernel_rfl
theorem size64 : (Try.prog.info? 64).map (·.size) = some 256 := by kernel_rfl
theorem us_tab_nil : us (tab []) = zu 256 := by
  rw [tab_nil, us, zu, List.map_replicate]
  rfl

set_option maxRecDepth 100000 in
set_option maxHeartbeats 2000000 in
theorem gears_any {A : Option Addr} {m c lo : Nat} {l : List UInt8} {w : World} (hb : Bs w lo A m c l) :
    Calls Try.prog 48 #[.slice A m c] w fun e w' => e = .returned (.agg (us (tab l)).toArray) ∧ Below w.heap.size w w' := by
  have z64 := zero64
  have z67 := zero67
  have HB := Lib.hid hb
  have HL := Lib.hid hb.1
  have hmx : m ≤ 9223372036854775807 := Nat.le_trans hb.2.1 hb.2.2.1
  clear hb
  go_enter Try.func48, Try.ntmps48
  go_wp2
  go_loopw [9] (fun s9 wr => ∃ k : Nat, k ≤ m ∧ s9 = .int .i64 k ∧ Blk wr w.heap.size 64 (zu 256) ∧ Blk wr (w.heap.size + 1) 64 (us (tab (l.take k))) ∧ Blk wr (w.heap.size + 2) 67 (hads (l.take k)) ∧ Below w.heap.size w wr)
    (fun s9 _ => m - (intOf s9).toNat)
  case atStart =>
    refine ⟨0, Nat.zero_le _, rfl, ((Blk.new _ _ _).alloc _).alloc _, ?_, ?_, (((Below.refl _ _).alloc (Nat.le_refl _) _).alloc (by simp) _).alloc (by simp; omega) _⟩
    · rw [List.take_zero, us_tab_nil]
      exact (Blk.new_at (by simp)).alloc _
    · rw [List.take_zero, hads_nil]
      exact Blk.new_at (by simp)
  case round =>
    obtain ⟨k, hk, rfl, h0, h1, h2, h3⟩ := hrel
    by_cases hlt : k < m
    · obtain ⟨b, o, rfl, _, hlb⟩ := HB.out.at_ (by omega)
      have cd := (HB.out.below h3 (Nat.le_refl _)).cell k hlt
      have HT := Lib.hid (show l.take (k + 1) = l.take k ++ [l.getD k 0] by
        rw [List.take_succ_eq_append_getElem (by have := HL.out; omega), List.getD_eq_getElem?_getD, List.getElem?_eq_getElem (by have := HL.out; omega)]; rfl)
      generalize l.getD k 0 = y at *
      have hy := y.toNat_lt
      have ch := (h2.cell y.toNat).trans (hads_get _ y)
      have fh := h2.frozen y.toNat
      have kM : (k : Int) < (m : Int) := by omega
      have y256 : (y.toNat : Int) < 256 := by omega
      have HH := Lib.hid (And.intro h0 (And.intro h1 (And.intro h2 h3)))
      generalize l.take k = q at *
      clear h0 h1 h2 h3
      by_cases hin : y ∈ q
      · rw [decide_eq_true hin] at ch
        have HI := Lib.hid hin
        clear hin
        go_wp2
        go_roundw
        case rel => exact ⟨k + 1, by omega, by go_num, HH.out.1, by rw [HT.out, tab_same _ _ HI.out]; exact HH.out.2.1, by rw [HT.out, hads_same _ _ HI.out]; exact HH.out.2.2.1, HH.out.2.2.2⟩
        case measure => simp [intOf]; omega
      · rw [decide_eq_false hin] at ch
        clear hin
        go_wp2_with (go_at_call 49; refine (gear_any y _).mono ?_; rintro e w1 ⟨rfl, hb1⟩; have z1 : wr.heap.size ≤ w1.heap.size := hb1.size; have a1 := HH.out.2.1.below hb1 HH.out.2.1.lt; have a2 := HH.out.2.2.1.below hb1 HH.out.2.2.1.lt; have c1 := (a1.cell y.toNat).trans (us_tab_get q y); have f1 := a1.frozen y.toNat; have c2 := (a2.cell y.toNat).trans (hads_get q y); have f2 := a2.frozen y.toNat; have HA := Lib.hid (And.intro a1 a2); clear a1 a2)
        go_roundw
        case rel =>
          refine ⟨k + 1, by omega, by go_num, ?_, ?_, ?_, ?_⟩
          · exact ((HH.out.1.below hb1 HH.out.1.lt).far (by first | (simp; done) | (simp; omega)) _).far (by first | (simp; done) | (simp; omega)) _
          · rw [HT.out, ← tab_snoc, ← us_set]
            exact (HA.out.1.set_ y.toNat _).far (by first | (simp; done) | (simp; omega)) _
          · rw [HT.out, ← hads_snoc]
            exact (HA.out.2.far (by first | (simp; done) | (simp; omega)) _).set_ y.toNat _
          · exact ((HH.out.2.2.2.trans (hb1.mono HH.out.2.2.2.size)).setCell (by first | (simp; done) | (simp; omega)) _).setCell (by first | (simp; done) | (simp; omega)) _
        case measure => simp [intOf]; omega
    · obtain rfl : k = m := by omega
      rw [List.take_of_length_le (by have := HL.out; omega)] at h1
      clear h2
      go_wp2_with (first
        | (((with_reducible refine wpList_load_row (o := ⟨some 24, _, _, _, _, _⟩) ?_ 64 (.tmp 3) ?_ (w.heap.size + 1) ?_ 64 (us (tab l)).toArray (0, 0) _ ?_ Try.underlying64 ?_ ?_ ?_); rfl; rfl; rfl; exact h1; rfl; (rw [size64]; simp [length_us, length_tab])))
        | (((with_reducible refine row_set (o := ⟨none, _, _, _, _, _⟩) ?_ ?_ 64 (.tmp 2) (.tmp 24) ?_ w.heap.size ?_ (us (tab l)) ?_ 64 (zu 256) ?_ ?_ ?_ ?_ ?_); rfl; rfl; rfl; rfl; rfl; exact h0; (rw [size64]; simp [length_us, length_tab]); (simp [length_us, length_tab, zu]); exact us_oneCell _; (intro w9 X9 g9))))
      refine bodyPost_ret (results_cell_row rfl _ w9 w.heap.size 64 _ (0, 0) _ rfl X9.out Try.underlying64 rfl (by rw [size64]; simp [length_us, length_tab])) rfl ?_
      exact ⟨rfl, h3.grown g9 h3.size (by intro k hk; simp at hk; omega)⟩
end Go.Proofs.Ytgfmpgflbphpcaa
