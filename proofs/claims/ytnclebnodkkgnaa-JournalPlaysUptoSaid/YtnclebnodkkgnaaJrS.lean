/- What journal.Open tells, plainly. No condition. -/
import Derived.Test.YtnclebnodkkgnaaJPiece
namespace Go.Proofs.Ytnclebnodkkgnaa
open Go.RowKit

/-- how many pieces a record says that it has -/
def recM (sec : Nat → List UInt8) (p : Nat) : Nat := ((sec p).getD 2 0).toNat
/-- how many bytes a piece says that it has -/
def pcK (s : List UInt8) : Nat := (s.getD 3 0).toNat
def pcD (s : List UInt8) : List UInt8 := (s.drop 12).take (pcK s)
/-- what no piece may say -/
def badB (M p k i : Nat) : Bool := decide (M < 1) || (decide (48 < p + M) || (decide (232 < k) || ((!decide (i + 1 = M) && !decide (k = 232)) || (decide (i + 1 = M) && (decide (0 < i) && decide (k = 0))))))
/-- a piece that is right: its data -/
def pcOk (sec : Nat → List UInt8) (G p N M i : Nat) : Option (List UInt8) :=
  if badB M p (pcK (sec (p + i))) i = true then none else if sec (p + i) = pieceB G N i M (pcD (sec (p + i))) then some (pcD (sec (p + i))) else none
def recGo (sec : Nat → List UInt8) (G p N M : Nat) : Nat → Nat → List UInt8 → Option (List UInt8)
  | 0, _, acc => some acc
  | f + 1, i, acc => match pcOk sec G p N M i with
    | none => none
    | some b => recGo sec G p N M f (i + 1) (acc ++ b)
def recAll (sec : Nat → List UInt8) (G p N : Nat) : Option (List UInt8) := recGo sec G p N (recM sec p) (recM sec p) 0 []
/-- a record: its bytes, how many pieces -/
def recAt (sec : Nat → List UInt8) (G p N : Nat) : Option (List UInt8 × Nat) :=
  if recM sec p < 1 ∨ 48 < p + recM sec p then none else (recAll sec G p N).map fun b => (b, recM sec p)
def openGo (sec : Nat → List UInt8) (G : Nat) : Nat → Nat → List (List UInt8) → List (List UInt8)
  | 0, _, out => out
  | f + 1, p, out => if p < 48 then match recAt sec G p (out.length + 1) with
    | none => out
    | some (b, m) => openGo sec G f (p + m) (out ++ [b])
    else out
def openS (sec : Nat → List UInt8) (G : Nat) : List (List UInt8) := openGo sec G 48 0 []

section
variable {sec : Nat → List UInt8} {G p N M i f : Nat} {acc : List UInt8} {out : List (List UInt8)}
theorem recGo_step (h : i < M) : recGo sec G p N M (M - i) i acc = match pcOk sec G p N M i with
    | none => none
    | some b => recGo sec G p N M (M - (i + 1)) (i + 1) (acc ++ b) := by
  obtain ⟨f, hf⟩ : ∃ f, M - i = f + 1 := ⟨M - i - 1, by omega⟩
  rw [hf, show M - (i + 1) = f by omega]
  rfl
theorem recGo_bad (h : i < M) (hb : badB M p (pcK (sec (p + i))) i = true) : recGo sec G p N M (M - i) i acc = none := by
  rw [recGo_step h, pcOk, if_pos hb]
theorem recGo_ne (h : i < M) (hb : ¬ sec (p + i) = pieceB G N i M (pcD (sec (p + i)))) : recGo sec G p N M (M - i) i acc = none := by
  rw [recGo_step h, pcOk]
  by_cases h1 : badB M p (pcK (sec (p + i))) i = true
  · rw [if_pos h1]
  · rw [if_neg h1, if_neg hb]
theorem recGo_eq (h : i < M) (hb : badB M p (pcK (sec (p + i))) i = false) (he : sec (p + i) = pieceB G N i M (pcD (sec (p + i)))) :
    recGo sec G p N M (M - i) i acc = recGo sec G p N M (M - (i + 1)) (i + 1) (acc ++ pcD (sec (p + i))) := by
  rw [recGo_step h, pcOk, if_neg (by rw [hb]; simp), if_pos he]
theorem badB_ok (h : badB M p f i = false) : 1 ≤ M ∧ p + M ≤ 48 ∧ f ≤ 232 := by
  unfold badB at h
  simp only [Bool.or_eq_false_iff, decide_eq_false_iff_not] at h
  omega
theorem recAt_none (h : recAll sec G p N = none) : recAt sec G p N = none := by
  unfold recAt
  rw [h]
  simp
theorem recAt_bad (h : badB (recM sec p) p (pcK (sec p)) 0 = true) : recAt sec G p N = none := by
  by_cases h1 : recM sec p < 1 ∨ 48 < p + recM sec p
  · rw [recAt, if_pos h1]
  · refine recAt_none ?_
    have h2 : 0 < recM sec p := by omega
    have := recGo_bad (sec := sec) (G := G) (p := p) (N := N) (acc := []) h2 h
    exact this
theorem recAt_some {b : List UInt8} (h1 : 1 ≤ recM sec p) (h2 : p + recM sec p ≤ 48) (h : recAll sec G p N = some b) : recAt sec G p N = some (b, recM sec p) := by
  rw [recAt, if_neg (by omega), h]
  rfl
theorem openGo_stop (hp : p < 48) (h : recAt sec G p (out.length + 1) = none) : openGo sec G f p out = out := by
  cases f with
  | zero => rfl
  | succ f => rw [openGo, if_pos hp, h]
theorem openGo_end (hp : 48 ≤ p) : openGo sec G f p out = out := by
  cases f with
  | zero => rfl
  | succ f => rw [openGo, if_neg (by omega)]
theorem openGo_next {b : List UInt8} {m : Nat} (hp : p < 48) (h : recAt sec G p (out.length + 1) = some (b, m)) : openGo sec G (f + 1) p out = openGo sec G f (p + m) (out ++ [b]) := by
  rw [openGo, if_pos hp, h]
end
end Go.Proofs.Ytnclebnodkkgnaa
