/- Lists of lists of one length. No condition. -/
import Derived.Test.YtnclebnodkkgnaaLib
namespace Go.Proofs.Ytnclebnodkkgnaa
theorem flat_len {α : Type} {k : Nat} {f : Nat → List α} : ∀ {n : Nat}, (∀ i, i < n → (f i).length = k) → ((List.range n).flatMap f).length = n * k
  | 0, _ => by simp
  | n + 1, h => by
    rw [List.range_succ, List.flatMap_append, List.length_append, flat_len (fun i hi => h i (by omega))]
    simp only [List.flatMap_cons, List.flatMap_nil, List.append_nil, h n (by omega)]
    rw [Nat.succ_mul]
theorem flat_get {α : Type} {k : Nat} {f : Nat → List α} : ∀ {n : Nat}, (∀ i, i < n → (f i).length = k) → ∀ {i j : Nat}, i < n → j < k → ((List.range n).flatMap f)[i * k + j]? = (f i)[j]?
  | 0, _, i, j, hi, _ => absurd hi (by omega)
  | n + 1, h, i, j, hi, hj => by
    have hl := flat_len (n := n) (k := k) (f := f) (fun i hi => h i (by omega))
    rw [List.range_succ, List.flatMap_append]
    by_cases e : i = n
    · subst e
      rw [List.getElem?_append_right (by omega), hl, Nat.add_sub_cancel_left]
      simp
    · have : i * k + j < n * k := by
        have h1 : (i + 1) * k ≤ n * k := Nat.mul_le_mul_right k (by omega)
        rw [Nat.succ_mul] at h1
        omega
      rw [List.getElem?_append_left (by omega)]
      exact flat_get (fun i hi => h i (by omega)) (by omega) hj
open Go.RowKit in
/-- an element of a slice whose elements are of k cells -/
theorem rd_elem {w : World} {lo k n : Nat} {A : Option Addr} {xs : Nat → List Value} (h : Rd w lo A ((List.range n).flatMap xs)) (hl : ∀ i, i < n → (xs i).length = k) (hk : 0 < k) {i : Nat} (hi : i < n) :
    ∃ b o, A = some ⟨b, o, none⟩ ∧ lo ≤ b ∧ b < w.heap.size ∧ w.rangeAt b (o + i * k) (xs i) := by
  have hfl := flat_len hl
  have hpos : 0 < n * k := Nat.mul_pos (by omega) hk
  obtain ⟨b, o, e, h1, h2, hc⟩ := h (by omega)
  refine ⟨b, o, e, h1, h2, fun j v hv => ?_⟩
  have hj : j < k := by rw [← hl i hi]; exact (List.getElem?_eq_some_iff.1 hv).1
  have hg := flat_get hl hi hj
  have hlt : i * k + j < ((List.range n).flatMap xs).length := by
    have : (i + 1) * k ≤ n * k := Nat.mul_le_mul_right k (by omega)
    rw [Nat.succ_mul] at this
    omega
  have h3 := hc (i * k + j) hlt
  rw [← Nat.add_assoc] at h3
  rw [h3, ← hv, ← hg, List.getElem?_eq_getElem hlt]
theorem range_at {w : World} {b o : Nat} {xs : List Value} (h : w.rangeAt b o xs) (j : Nat) {v : Value} (hv : xs[j]? = some v) : w.cell? ⟨b, o + j, none⟩ = some v := h j v hv
end Go.Proofs.Ytnclebnodkkgnaa
