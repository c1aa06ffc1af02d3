/- Nodes of a tree: the plain functions. No condition. -/
import Derived.Test.YtnjpibbmgbiofaaPlainA
namespace Go.Proofs.Ytnjpibbmgbiofaa

structure Nd where
  leaf : Bool
  keys : List ByteArray
  vals : List ByteArray
  kids : List Int
deriving DecidableEq
def Nd.nil : Nd := ⟨false, [], [], []⟩
def kAt (s : Nd) (i : Nat) : ByteArray := s.keys.getD i .empty
def vAt (s : Nd) (i : Nat) : ByteArray := s.vals.getD i .empty
def dAt (s : Nd) (i : Nat) : Int := s.kids.getD i 0
/-- how many bytes a key has with what goes with it -/
def eachN (s : Nd) (i : Nat) : Nat :=
  if s.leaf then 2 + (kAt s i).size + (if i < s.vals.length then (vAt s i).size else 0)
  else if i < s.kids.length then 3 + (kAt s i).size else 1 + (kAt s i).size
def sizeTo (s : Nd) : Nat → Nat
  | 0 => 1
  | k + 1 => sizeTo s k + eachN s k
/-- how many bytes a node has -/
def sizeN (s : Nd) : Nat := sizeTo s s.keys.length
theorem sizeTo_le (s : Nd) {i k : Nat} (h : i ≤ k) : sizeTo s i ≤ sizeTo s k := by
  induction k with
  | zero => obtain rfl : i = 0 := by omega
            exact Nat.le_refl _
  | succ k ih =>
    by_cases hi : i ≤ k
    · have := ih hi
      simp only [sizeTo]
      omega
    · obtain rfl : i = k + 1 := by omega
      exact Nat.le_refl _
end Go.Proofs.Ytnjpibbmgbiofaa
