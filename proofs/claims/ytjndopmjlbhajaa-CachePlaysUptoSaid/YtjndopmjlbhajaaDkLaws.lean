/- Deeds of layer 8: pick, bytes. No condition. -/
import Derived.Test.YtjndopmjlbhajaaDkPow
import Derived.Test.YtjndopmjlbhajaaDkRots
import Derived.Test.YtjndopmjlbhajaaLibL
import Derived.Test.YtjndopmjlbhajaaFactsD
namespace Go.Proofs.Ytjndopmjlbhajaa
open Go.RowKit
set_option linter.unusedSimpArgs false
set_option linter.unusedVariables false

def deedN (at_ : Int) (sh : Bool) : Nat := if sh then pickN at_ 300 else 256
def deedB (at_ : Int) (fl la : UInt8) (sh : Bool) : List UInt8 := if deedN at_ sh = 0 then [] else List.replicate (deedN at_ sh - 1) fl ++ [la]
theorem deedN_le (at_ : Int) (sh : Bool) : deedN at_ sh ≤ 300 := by
  unfold deedN
  split
  · have := pickN_lt at_ (n := 300) (by omega); omega
  · omega
theorem deedB_len (at_ : Int) (fl la : UInt8) (sh : Bool) : (deedB at_ fl la sh).length = deedN at_ sh := by
  unfold deedB
  split
  · simp; omega
  · simp; omega
theorem fill_step (N i : Nat) (fl : UInt8) (h : i < N) : (List.replicate i fl ++ List.replicate (N - i) 0).set i fl = List.replicate (i + 1) fl ++ List.replicate (N - (i + 1)) 0 := by
  rw [List.set_append_right _ _ (by simp), List.length_replicate, Nat.sub_self, show N - i = (N - (i + 1)) + 1 by omega, List.replicate_succ, List.set_cons_zero, List.replicate_succ', List.append_assoc]
  rfl
theorem fill_last (N : Nat) (fl la : UInt8) (h : 0 < N) : (List.replicate N fl).set (N - 1) la = List.replicate (N - 1) fl ++ [la] := by
  obtain ⟨m, rfl⟩ : ∃ m, N = m + 1 := ⟨N - 1, by omega⟩
  rw [List.replicate_succ', List.set_append_right _ _ (by simp)]
  simp

end Go.Proofs.Ytjndopmjlbhajaa
namespace Go.Proofs.Ytjndopmjlbhajaa
open Go.RowKit
set_option linter.unusedSimpArgs false
set_option linter.unusedVariables false

theorem write_new {s : Dsk} (h : s.cut = false) (k : Nat) (x : List UInt8) : writeD s k x = writeS s k x := by
  unfold writeD doneOk doneS
  rw [h]
  rfl
theorem flush_new {s : Dsk} (h : s.cut = false) : flushD s = clearD { s with lies := fun k => if k < s.n then hasD s k else s.lies k } := by
  have h1 : doneOk s = true := by unfold doneOk; rw [h]; rfl
  have h2 : doneS s = s := by unfold doneS; rw [h]; rfl
  unfold flushD
  rw [h1, h2]
  rfl
def dB (fl : UInt8) : List UInt8 := deedB 0 fl 0 false
theorem dB_len (fl : UInt8) : (dB fl).length = 256 := deedB_len 0 fl 0 false
theorem dB_get (fl : UInt8) : (bvs (dB fl))[0]? = some (bv fl) := by
  unfold dB deedB
  rw [if_neg (by decide)]
  rfl
theorem lives_has (a b : List UInt8) : hasD (powerD (writeD (flushD (writeD (newD 9) 3 a)) 3 b) []) 3 = a := by
  obtain ⟨x, hx⟩ : ∃ x, x = writeD (flushD (writeD (newD 9) 3 a)) 3 b := ⟨_, rfl⟩
  have h1 := power_all x []
  have hn : x.n = 9 := by rw [hx]; rfl
  have h2 := (h1.2.2 3 (by rw [hn]; omega)).1
  rw [← hx, hasD_flat h2, power_nil, hx]
  rfl
end Go.Proofs.Ytjndopmjlbhajaa
namespace Go.Proofs.Ytjndopmjlbhajaa
open Go.RowKit
set_option linter.unusedSimpArgs false
set_option linter.unusedVariables false

structure CutI (s : Dsk) (N0 nn i : Nat) (ll : Nat → List UInt8) : Prop where
  n_ : s.n = 12
  cut_ : s.cut = true
  left_ : (s.left = (nn : Int) ∨ nn = 0) ∧ -(i : Int) ≤ s.left ∧ s.left ≤ (nn : Int)
  nn_ : nn ≤ 20
  lies_ : ∀ k, s.lies k = List.replicate 256 0
  has_ : ∀ k, hasD s k = if ll k = [] then List.replicate 256 0 else ll k
  cnt : ∀ k, (s.vers k).length + nn ≤ N0
  len : ∀ k, ll k = [] ∨ (ll k).length = 256

theorem cutI_new {N0 : Nat} (h : N0 ≤ 20) : CutI (cutD (newD 12) N0) N0 N0 0 (fun _ => []) :=
  ⟨rfl, rfl, ⟨.inl rfl, by show -((0 : Nat) : Int) ≤ (N0 : Int); omega, by show (N0 : Int) ≤ N0; omega⟩, h, fun _ => rfl, fun _ => rfl, fun _ => by show 0 + N0 ≤ N0; omega, fun _ => .inl rfl⟩
theorem CutI.idle {s : Dsk} {N0 nn i : Nat} {ll : Nat → List UInt8} (h : CutI s N0 nn i ll) : CutI s N0 nn (i + 1) ll :=
  ⟨h.n_, h.cut_, ⟨h.left_.1, by have := h.left_.2.1; omega, h.left_.2.2⟩, h.nn_, h.lies_, h.has_, h.cnt, h.len⟩
theorem CutI.ok {s : Dsk} {N0 nn i : Nat} {ll : Nat → List UInt8} (h : CutI s N0 nn i ll) (hn : 0 < nn) : doneOk s = true ∧ s.left = (nn : Int) ∧ wrap64 (s.left - 1) = (nn : Int) - 1 := by
  have hl : s.left = (nn : Int) := by rcases h.left_.1 with e | e; exact e; omega
  have := h.nn_
  have hw : wrap64 (s.left - 1) = (nn : Int) - 1 := by rw [hl]; unfold wrap64; omega
  refine ⟨?_, hl, hw⟩
  unfold doneOk
  rw [hw, decide_eq_true (by omega), Bool.or_true]
theorem CutI.put {s : Dsk} {N0 nn i k : Nat} {ll : Nat → List UInt8} {x : List UInt8} (h : CutI s N0 nn i ll) (hn : 0 < nn) (hx : x.length = 256) :
    CutI (writeD s k x) N0 (nn - 1) (i + 1) (fun j => if j = k then x else ll j) := by
  obtain ⟨h1, h2, h3⟩ := h.ok hn
  have hd : doneS s = { s with left := wrap64 (s.left - 1) } := by unfold doneS; rw [h.cut_]; rfl
  have hw : writeD s k x = writeS { s with left := wrap64 (s.left - 1) } k x := by unfold writeD; rw [h1, hd]; rfl
  rw [hw, h3]
  refine ⟨h.n_, h.cut_, ⟨.inl ?_, ?_, ?_⟩, ?_, h.lies_, fun j => ?_, fun j => ?_, fun j => ?_⟩
  · show (nn : Int) - 1 = ((nn - 1 : Nat) : Int); omega
  · show -((i + 1 : Nat) : Int) ≤ (nn : Int) - 1; omega
  · show (nn : Int) - 1 ≤ ((nn - 1 : Nat) : Int); omega
  · have := h.nn_; omega
  · by_cases e : j = k
    · subst e
      have hx0 : x ≠ [] := by intro e; rw [e] at hx; cases hx
      show hasD _ j = if (if j = j then x else ll j) = [] then _ else (if j = j then x else ll j)
      rw [if_pos rfl, if_neg hx0]
      unfold hasD writeS
      simp
    · show hasD _ j = if (if j = k then x else ll j) = [] then _ else (if j = k then x else ll j)
      rw [if_neg e, ← h.has_ j]
      unfold hasD writeS
      show ((if j = k then _ else s.vers j : List (List UInt8)).getLast?).getD (s.lies j) = _
      rw [if_neg e]
  · show (if j = k then s.vers k ++ [x] else s.vers j : List (List UInt8)).length + (nn - 1) ≤ N0
    have := h.cnt j
    have := h.cnt k
    by_cases e : j = k
    · rw [if_pos e, List.length_append]; simp; omega
    · rw [if_neg e]; omega
  · show (if j = k then x else ll j) = [] ∨ (if j = k then x else ll j).length = 256
    by_cases e : j = k
    · rw [if_pos e]; exact .inr hx
    · rw [if_neg e]; exact h.len j
theorem CutI.lost {s : Dsk} {N0 i k : Nat} {ll : Nat → List UInt8} {x : List UInt8} (h : CutI s N0 0 i ll) (hi : i ≤ 4611686018427387904) :
    CutI (writeD s k x) N0 0 (i + 1) ll := by
  have hl := h.left_
  have hw : wrap64 (s.left - 1) = s.left - 1 := by unfold wrap64; omega
  have h1 : doneOk s = false := by
    unfold doneOk
    rw [h.cut_, hw, decide_eq_false (by omega)]
    rfl
  have hd : doneS s = { s with left := wrap64 (s.left - 1) } := by unfold doneS; rw [h.cut_]; rfl
  have hwr : writeD s k x = { s with left := wrap64 (s.left - 1) } := by unfold writeD; rw [h1, hd]; rfl
  rw [hwr, hw]
  exact ⟨h.n_, h.cut_, ⟨.inr rfl, by show -((i + 1 : Nat) : Int) ≤ s.left - 1; omega, by show s.left - 1 ≤ ((0 : Nat) : Int); omega⟩, h.nn_, h.lies_, h.has_, h.cnt, h.len⟩
/-- the end: the power goes, a write behind it is there -/
theorem CutI.gone {s : Dsk} {N0 nn i : Nat} {ll : Nat → List UInt8} (h : CutI s N0 nn i ll) : hasD (powerD s []) 3 = z256 := by
  have h2 := ((power_all s []).2.2 3 (by rw [h.n_]; omega)).1
  rw [hasD_flat h2, power_nil, h.lies_]
  rfl
theorem CutI.again {s : Dsk} {N0 nn i : Nat} {ll : Nat → List UInt8} (h : CutI s N0 nn i ll) (x : List UInt8) : hasD (writeD (powerD s []) 3 x) 3 = x := by
  rw [write_new (power_all s []).2.1]
  unfold hasD writeS
  simp

section
variable {w w' : World} {base : Nat} {d d' : Dw} {s' : Dsk} {g : Nat} {vs : List Value} {ll : Nat → List UInt8}
end
end Go.Proofs.Ytjndopmjlbhajaa
