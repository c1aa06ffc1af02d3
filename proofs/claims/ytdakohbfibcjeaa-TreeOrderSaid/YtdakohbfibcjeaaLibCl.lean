/- bytes.Clone over bytes that lie in memory. -/
import Derived.Test.YtdakohbfibcjeaaLib
namespace Go.Proofs.Ytdakohbfibcjeaa
open Go.RowKit

theorem clone_nil (c : Nat) (w : World) :
    Calls Try.prog 79 #[.slice none 0 c] w fun e w' => e = .returned (.slice none 0 0) ∧ w = w' := by
  have q1 := Lib.run_eql_slice_nil (P := Try.prog) w 82 5 none 0 c 0 0 Try.underlying82
  go_enter Try.func79, Try.ntmps79
  go_wp2
  go_ret
  exact ⟨rfl, rfl⟩

set_option maxHeartbeats 400000 in
theorem clone_some {ad : Addr} {m c : Nat} {l : List UInt8} {lo : Nat} {w : World} (h : Bs w lo (some ad) m c l) (hm : m ≤ 140737488355328) :
    Calls Try.prog 79 #[.slice (some ad) m c] w fun e w' => ∃ A' c', e = .returned (.slice A' m c') ∧ Own w' w.heap.size 5 1 A' m c' (bvs l) ∧ Below w.heap.size w w' := by
  obtain ⟨hl, hc1, hc2, hr⟩ := h
  have HL := Lib.hid hl
  clear hl
  have q1 := Lib.run_eql_slice_nil (P := Try.prog) w 82 5 (some ad) m c 0 0 Try.underlying82
  go_enter Try.func79, Try.ntmps79
  go_wp2_with (at_builtin; refine wpList_app rfl (.tmp 5) (.tmp 6) 82 rfl 5 1 Try.underlying82 info5 rfl (by omega) rfl (Own.lit _ _ [] (n := 0) (base := w.heap.size) (by omega) rfl (Nat.le_refl _) rfl) rfl (hr.below (B := w.heap.size) ((Below.refl _ _).alloc (Nat.le_refl _) _) (Nat.le_refl _)) (by simpa using HL.out) (bvs_oneCell _) (by omega) (by omega) (by simp) ?_; intro A1 c1 w1 ho1 hg1 _)
  have b1 := below_own (w0 := w) ((Below.refl _ _).alloc (Nat.le_refl _) _) (Own.lit (s := 1) _ 5 [] (n := 0) (base := w.heap.size) (by omega) rfl (Nat.le_refl _) rfl) hg1 (Nat.le_refl _) (by simp)
  rw [Nat.zero_add] at ho1
  go_ret
  exact ⟨A1, c1, rfl, ho1, b1⟩

theorem clone_any {A : Option Addr} {m c : Nat} {l : List UInt8} {lo : Nat} {w : World} (h : Bs w lo A m c l) (hm : m ≤ 140737488355328) :
    Calls Try.prog 79 #[.slice A m c] w fun e w' => ∃ A' c', e = .returned (.slice A' m c') ∧ Own w' w.heap.size 5 1 A' m c' (bvs l) ∧ Below w.heap.size w w' := by
  cases A with
  | none =>
    have hl := rd_none h.2.2.2
    have : l = [] := by simpa [bvs] using hl
    obtain ⟨rfl, _⟩ := h
    subst this
    exact (clone_nil c w).mono fun e w' ⟨he, hw⟩ => ⟨none, 0, he, hw ▸ Own.nil_ _ _ _ _, hw ▸ Below.refl _ _⟩
  | some ad => exact clone_some h hm

end Go.Proofs.Ytdakohbfibcjeaa
