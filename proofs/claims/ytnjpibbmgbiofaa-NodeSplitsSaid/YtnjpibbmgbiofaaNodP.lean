/- A node's bytes: the plain function. No condition. -/
import Derived.Test.YtnjpibbmgbiofaaNodMay
namespace Go.Proofs.Ytnjpibbmgbiofaa

/-- the bytes of a key, and of what goes with it -/
def pieceN (s : Nd) (i : Nat) : List UInt8 :=
  UInt8.ofNat (kAt s i).size :: ((kAt s i).toList ++ (if s.leaf then UInt8.ofNat (vAt s i).size :: (vAt s i).toList else [UInt8.ofNat (dAt s i).toNat, UInt8.ofNat ((dAt s i).toNat / 256)]))
def bodyTo (s : Nd) : Nat → List UInt8
  | 0 => [UInt8.ofNat s.keys.length]
  | k + 1 => bodyTo s k ++ pieceN s k
def bodyN (s : Nd) : List UInt8 := bodyTo s s.keys.length
def kindN (s : Nd) : Nat := if s.leaf then 1 else 2
theorem length_toList (b : ByteArray) : b.toList.length = b.size := by rw [ByteArray.toList_eq]; rfl
theorem length_pieceN (s : Nd) (i : Nat) (hi : i < s.keys.length) (hl : s.leaf = true → s.vals.length = s.keys.length) (hd : s.leaf = false → s.kids.length = s.keys.length) : (pieceN s i).length = eachN s i := by
  unfold pieceN eachN
  cases h : s.leaf with
  | true =>
    simp only [if_true, List.length_cons, List.length_append, length_toList]
    rw [if_pos (by rw [hl h]; exact hi)]
    omega
  | false =>
    simp only [List.length_cons, List.length_append, length_toList, List.length_nil, Bool.false_eq_true, if_false]
    rw [if_pos (by rw [hd h]; exact hi)]
    omega
theorem length_bodyTo (s : Nd) (hl : s.leaf = true → s.vals.length = s.keys.length) (hd : s.leaf = false → s.kids.length = s.keys.length) (k : Nat) (hk : k ≤ s.keys.length) : (bodyTo s k).length = sizeTo s k := by
  induction k with
  | zero => rfl
  | succ k ih =>
    rw [bodyTo, sizeTo, List.length_append, ih (by omega), length_pieceN s k (by omega) hl hd]

theorem may_lens {s : Nd} (h : mayN s) : (s.leaf = true → s.vals.length = s.keys.length) ∧ (s.leaf = false → s.kids.length = s.keys.length) := ⟨fun hl => (h.2.2.1 hl).2.1, fun hl => (h.2.2.2 hl).1⟩
theorem may_each {s : Nd} (h : mayN s) (i : Nat) (hi : i < s.keys.length) : eachN s i ≤ 50 := by
  have h1 := (h.2.1 i hi).1
  unfold eachN
  cases hl : s.leaf with
  | true =>
    have h2 := (h.2.2.1 hl).2.2.2
    simp only [if_true]
    split
    · rename_i hv
      have := h2 i hv
      unfold vAt
      omega
    · omega
  | false =>
    simp only [Bool.false_eq_true, if_false]
    split <;> omega
theorem sizeTo_le50 {s : Nd} (h : mayN s) (k : Nat) (hk : k ≤ s.keys.length) : sizeTo s k ≤ 1 + 50 * k := by
  induction k with
  | zero => simp [sizeTo]
  | succ k ih =>
    have := ih (by omega)
    have := may_each h k (by omega)
    simp only [sizeTo]
    omega
/-- a node that may be has at most 240 bytes -/
theorem may_size {s : Nd} (h : mayN s) (hr : s.keys.length ≤ 8796093022208) : sizeN s ≤ 240 := by
  have h1 := sizeTo_le50 h s.keys.length (Nat.le_refl _)
  have h2 := h.1.2
  unfold sizeN at h2 ⊢
  unfold szV at h2
  rw [IntWalk.i64_in _ (by omega)] at h2
  omega
theorem sizeTo_ge (s : Nd) (k : Nat) : k ≤ sizeTo s k := by
  induction k with
  | zero => omega
  | succ k ih =>
    have : 1 ≤ eachN s k := by unfold eachN; split <;> (try split) <;> omega
    simp only [sizeTo]
    omega
theorem may_keys {s : Nd} (h : mayN s) (hr : s.keys.length ≤ 8796093022208) : s.keys.length ≤ 240 := Nat.le_trans (sizeTo_ge s _) (may_size h hr)
theorem length_bodyN {s : Nd} (h : mayN s) (hr : s.keys.length ≤ 8796093022208) : (bodyN s).length ≤ 240 := by
  unfold bodyN
  rw [length_bodyTo s (may_lens h).1 (may_lens h).2 _ (Nat.le_refl _)]
  exact may_size h hr
theorem length_bodyTo_le {s : Nd} (h : mayN s) (hr : s.keys.length ≤ 8796093022208) (k : Nat) (hk : k ≤ s.keys.length) : (bodyTo s k).length ≤ 240 := by
  rw [length_bodyTo s (may_lens h).1 (may_lens h).2 _ hk]
  exact Nat.le_trans (sizeTo_le s hk) (may_size h hr)
end Go.Proofs.Ytnjpibbmgbiofaa
