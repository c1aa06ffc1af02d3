/- disk.Cut; disk.Rot out of range. No condition. -/
import Derived.Test.YtnclebnodkkgnaaDkRotV
namespace Go.Proofs.Ytnclebnodkkgnaa
open Go.RowKit Go.Maps
set_option linter.unusedSimpArgs false
set_option linter.unusedVariables false

def cutLeft (s : Dsk) (n : Int) : Int := if s.cut then min n (max s.left 0) else n
def cutD (s : Dsk) (n : Int) : Dsk := { s with cut := true, left := cutLeft s n }

set_option maxHeartbeats 1000000 in
theorem drot_far {w : World} {base : Nat} {d : Dw} {s : Dsk} (h : Dk w base d s) {k : Int} (hk : k < 0 ∨ 2048 * (s.n : Int) ≤ k) :
    Calls Try.prog 21 #[.pointer (some ⟨d.g, 0, none⟩), .int .i64 k] w fun e w' => e = .returned (.int .i64 2) ∧ w' = w := by
  have bc := h.blk.cells
  have hs := h.small
  clear h
  by_cases h0 : k < 0
  · go_enter Try.func21, Try.ntmps21
    go_wp2
    go_ret
    exact ⟨rfl, rfl⟩
  · have h1 : 2048 * (s.n : Int) ≤ k := by omega
    go_enter Try.func21, Try.ntmps21
    go_wp2
    go_ret
    exact ⟨rfl, rfl⟩
set_option maxHeartbeats 1000000 in
theorem dcut_bad {w : World} {g : Nat} {n : Int} (hn : n < 0 ∨ 1073741824 < n) :
    Calls Try.prog 34 #[.pointer (some ⟨g, 0, none⟩), .int .i64 n] w fun e w' => e = .returned (.int .i64 1) ∧ w' = w := by
  by_cases h0 : n < 0
  · go_enter Try.func34, Try.ntmps34
    go_wp2
    go_ret
    exact ⟨rfl, rfl⟩
  · have h1 : 1073741824 < n := by omega
    go_enter Try.func34, Try.ntmps34
    go_wp2
    go_ret
    exact ⟨rfl, rfl⟩
theorem Dk.setCut {w : World} {base : Nat} {d : Dw} {s : Dsk} (h : Dk w base d s) {l : Int} (hl : -9223372036854775808 ≤ l ∧ l ≤ 9223372036854775807) :
    Ch w ((w.setCell ⟨d.g, 2, none⟩ (.bool true)).setCell ⟨d.g, 3, none⟩ (.int .i64 l)) base d d { s with cut := true, left := l } := by
  have K : Kept (fun b => b = d.g) w ((w.setCell ⟨d.g, 2, none⟩ (.bool true)).setCell ⟨d.g, 3, none⟩ (.int .i64 l)) := ⟨rfl, rfl, rfl, by simp, fun b _ hn => (Below.heap_setCell _ _ _ b hn).trans (Below.heap_setCell w _ _ b hn)⟩
  exact ⟨h.reblk K hl ((h.blk.set_ 2 (.bool true)).set_ 3 (.int .i64 l)), rfl, K.mono (fun b _ e => .inl e), fun b hb => .inl hb⟩
set_option maxHeartbeats 1000000 in
theorem dcut_ok {w : World} {base : Nat} {d : Dw} {s : Dsk} (h : Dk w base d s) {n : Int} (hn : 0 ≤ n ∧ n ≤ 1073741824) :
    Calls Try.prog 34 #[.pointer (some ⟨d.g, 0, none⟩), .int .i64 n] w fun e w' => e = .returned (.int .i64 0) ∧ Ch w w' base d d (cutD s n) := by
  have bc := h.blk.cells
  have bf := h.blk.frees
  have hl := h.left
  obtain ⟨n1, n2⟩ := hn
  have H := Lib.hid h
  clear h
  cases hc : s.cut with
  | false =>
    have HE : Hid (cutD s n = { s with cut := true, left := n }) := by show _ = _; unfold cutD cutLeft; rw [hc]; rfl
    rw [hc] at bc
    clear hc
    go_enter Try.func34, Try.ntmps34
    go_wp2
    go_ret
    exact ⟨rfl, by rw [HE.out]; exact H.out.setCut (by omega)⟩
  | true =>
    have HE : Hid (cutD s n = { s with cut := true, left := min n (max s.left 0) }) := by show _ = _; unfold cutD cutLeft; rw [hc]; rfl
    rw [hc] at bc
    clear hc
    go_enter Try.func34, Try.ntmps34
    go_wp2
    go_ret
    exact ⟨rfl, by rw [HE.out]; exact H.out.setCut (by omega)⟩
end Go.Proofs.Ytnclebnodkkgnaa
