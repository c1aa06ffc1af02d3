/- Lists of whole numbers in memory. No condition. -/
import Derived.Test.YtnclebnodkkgnaaLib
namespace Go.Proofs.Ytnclebnodkkgnaa
open Go.RowKit

def iv (l : List Nat) : List Value := l.map fun n : Nat => .int .i64 (n : Int)
theorem length_iv (l : List Nat) : (iv l).length = l.length := by simp [iv]
theorem iv_oneCell (l : List Nat) : ∀ u ∈ iv l, u.oneCell' = true := by
  intro u hu
  obtain ⟨_, _, rfl⟩ := List.mem_map.1 hu
  rfl
theorem iv_snoc (l : List Nat) (x : Nat) : iv l ++ [Value.int .i64 (x : Int)] = iv (l ++ [x]) := by simp [iv]
theorem iv_get (l : List Nat) (i : Nat) (h : i < (iv l).length) : (iv l)[i] = .int .i64 (l.getD i 0 : Nat) := by
  simp only [iv, List.getElem_map]
  rw [length_iv] at h
  rw [List.getD_eq_getElem?_getD, List.getElem?_eq_getElem h]
  rfl
theorem info3v : (Try.prog.info? 3).map (fun i => (i.zero, i.size, i.bytes)) = some (some (.int .i64 0), 1, 8) := by kernel_rfl
theorem own_iv {w : World} {base n c : Nat} {A : Option Addr} {l : List Nat} (h : Own w base 3 1 A n c (iv l)) {k : Nat} (hk : k < l.length) : ∃ g, A = some ⟨g, 0, none⟩ ∧ g < w.heap.size ∧ w.cell? ⟨g, k, none⟩ = some (.int .i64 (l.getD k 0 : Nat)) := by
  obtain ⟨g, e, _, h1, h2, _⟩ := h.cell (k := k) (by rw [length_iv]; exact hk)
  exact ⟨g, e, h1, by rw [h2, iv_get]⟩
end Go.Proofs.Ytnclebnodkkgnaa
