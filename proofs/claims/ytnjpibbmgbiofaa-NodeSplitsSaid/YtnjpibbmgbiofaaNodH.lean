/- What a split node's parts are: the plain law of NodeHalves. No condition. -/
import Derived.Test.YtnjpibbmgbiofaaNodSp
namespace Go.Proofs.Ytnjpibbmgbiofaa

/-- one key of a node, with what goes with it -/
def oneN (s : Nd) (i : Nat) : Nd := ⟨s.leaf, [kAt s i], if s.leaf = true ∧ i < s.vals.length then [vAt s i] else [], if s.leaf = false ∧ i < s.kids.length then [dAt s i] else []⟩
def lensN (s : Nd) : Prop := (s.leaf = true → s.vals.length = s.keys.length ∧ s.kids.length = 0) ∧ (s.leaf = false → s.kids.length = s.keys.length ∧ s.vals.length = 0)
def risesN (s : Nd) : Prop := ∀ i, 0 < i → i < s.keys.length → Op.bytesLess (kAt s (i - 1)).toList (kAt s i).toList = true
def onesN (s : Nd) : Prop := ∀ i, i < s.keys.length → mayN (oneN s i)

theorem one_key {s : Nd} {i : Nat} (h : mayN (oneN s i)) : (kAt s i).size ≤ 24 := (h.2.1 0 (by simp [oneN])).1
theorem one_leaf {s : Nd} {i : Nat} (h : mayN (oneN s i)) (hl : s.leaf = true) : kAt s i ≠ .empty ∧ (i < s.vals.length → (vAt s i).size ≤ 24) := by
  have h1 := h.2.2.1 hl
  refine ⟨h1.1, fun hi => ?_⟩
  have h2 := h1.2.2.2 0
  simp only [oneN, hl, hi, and_self, if_true, List.length_cons, List.length_nil] at h2
  exact h2 (by omega)
theorem one_inner {s : Nd} {i : Nat} (h : mayN (oneN s i)) (hl : s.leaf = false) (hi : i < s.kids.length) : 0 ≤ dAt s i ∧ dAt s i ≤ 65535 := by
  have h1 := h.2.2.2 hl
  have h2 := h1.2.2 0
  simp only [oneN, hl, hi, and_self, if_true, List.length_cons, List.length_nil] at h2
  exact h2 (by omega)
theorem one_each {s : Nd} {i : Nat} (h : mayN (oneN s i)) : eachN s i ≤ 50 := by
  have h1 := one_key h
  unfold eachN
  cases hl : s.leaf with
  | true =>
    simp only [if_true]
    split
    · rename_i hv
      have := (one_leaf h hl).2 hv
      omega
    · omega
  | false =>
    simp only [Bool.false_eq_true, if_false]
    split <;> omega
theorem ones_size {s : Nd} (h : onesN s) (k : Nat) (hk : k ≤ s.keys.length) : sizeTo s k ≤ 1 + 50 * k := by
  induction k with
  | zero => simp [sizeTo]
  | succ k ih =>
    have := ih (by omega)
    have := one_each (h k (by omega))
    simp only [sizeTo]
    omega
theorem szV_small {n : Nat} (h : n ≤ 9223372036854775807) : szV n = n := by
  unfold szV
  rw [IntWalk.i64_in _ (by omega)]
theorem each_part (s : Nd) (a b i : Nat) (h : a + i < b) : eachN (partN s a b) i = eachN s (a + i) := by
  have hv : (i < (partN s a b).vals.length) ↔ (a + i < s.vals.length) := by simp only [partN, List.length_drop, List.length_take]; omega
  have hd : (i < (partN s a b).kids.length) ↔ (a + i < s.kids.length) := by simp only [partN, List.length_drop, List.length_take]; omega
  unfold eachN
  rw [kAt_part s a b i h, vAt_part s a b i h]
  simp only [hv, hd]
  rfl
theorem sizeTo_part (s : Nd) (a b k : Nat) (h : a + k ≤ b) : sizeTo (partN s a b) k + sizeTo s a = sizeTo s (a + k) + 1 := by
  induction k with
  | zero => simp [sizeTo]; omega
  | succ k ih =>
    have := ih (by omega)
    rw [sizeTo, each_part s a b k (by omega), ← Nat.add_assoc, sizeTo]
    omega
theorem may_part {s : Nd} (hl : lensN s) (hr : risesN s) (ho : onesN s) (a b e : Nat) (he : e = min b s.keys.length) (hae : a < e) (hz : sizeTo s e + 1 ≤ 240 + sizeTo s a) : mayN (partN s a b) := by
  have hk : (partN s a b).keys.length = e - a := by simp only [partN, List.length_drop, List.length_take]; omega
  have hsz : sizeN (partN s a b) + sizeTo s a = sizeTo s e + 1 := by
    unfold sizeN
    rw [hk, sizeTo_part s a b (e - a) (by omega), show a + (e - a) = e by omega]
  have hm := sizeTo_le s (show a ≤ e by omega)
  refine ⟨⟨by omega, ?_⟩, fun i hi => ⟨?_, fun h0 => ?_⟩, fun hlf => ?_, fun hlf => ?_⟩
  · rw [szV_small (by omega)]
    omega
  · rw [kAt_part s a b i (by omega)]
    exact one_key (ho (a + i) (by omega))
  · rw [kAt_part s a b i (by omega), kAt_part s a b (i - 1) (by omega), show a + (i - 1) = a + i - 1 by omega]
    exact hr (a + i) (by omega) (by omega)
  · have hlf : s.leaf = true := hlf
    obtain ⟨l1, l2⟩ := hl.1 hlf
    refine ⟨?_, ?_, ?_, fun i hi => ?_⟩
    · rw [kAt_part s a b 0 (by omega)]
      exact (one_leaf (ho (a + 0) (by omega)) hlf).1
    · simp only [partN, List.length_drop, List.length_take]; omega
    · simp only [partN, List.length_drop, List.length_take]; omega
    · simp only [partN, List.length_drop, List.length_take] at hi
      have := vAt_part s a b i (by omega)
      unfold vAt at this
      rw [this]
      exact (one_leaf (ho (a + i) (by omega)) hlf).2 (by omega)
  · have hlf : s.leaf = false := hlf
    obtain ⟨l1, l2⟩ := hl.2 hlf
    refine ⟨?_, ?_, fun i hi => ?_⟩
    · simp only [partN, List.length_drop, List.length_take]; omega
    · simp only [partN, List.length_drop, List.length_take]; omega
    · simp only [partN, List.length_drop, List.length_take] at hi
      have := dAt_part s a b i (by omega)
      unfold dAt at this
      rw [this]
      exact one_inner (ho (a + i) (by omega)) hlf (by omega)

theorem halves_may {s p q : Nd} (hk : s.keys.length ≤ 8796093022208) (h1 : 240 < szV (sizeN s)) (h2 : szV (sizeN s) ≤ 292) (hl : lensN s) (hr : risesN s) (ho : onesN s) (hs : SplitN s p q) : mayN p ∧ mayN q := by
  have hz := ones_size ho s.keys.length (Nat.le_refl _)
  have hsz : sizeN s = sizeTo s s.keys.length := rfl
  rw [szV_small (by omega)] at h1 h2
  have hmost : mostN s = s.keys.length := by
    unfold mostN
    cases hlf : s.leaf with
    | true => have := hl.1 hlf; omega
    | false => have := hl.2 hlf; omega
  have hhalf : halfN s = ((sizeN s / 2 : Nat) : Int) := by
    unfold halfN
    rw [szV_small (by omega), Int.tdiv_eq_ediv_of_nonneg (by omega)]
    rfl
  rcases hs with ⟨hf, rfl, rfl⟩ | ⟨m, ⟨m1, m2, m3, m4⟩, rfl, rfl⟩
  · omega
  · have e1 : ∀ k, k ≤ s.keys.length → szV (sizeTo s k) = (sizeTo s k : Nat) := fun k hk' => szV_small (by have := sizeTo_le s hk'; omega)
    have hm0 : sizeTo s 0 = 1 := rfl
    have hstep : ∀ k, k < s.keys.length → sizeTo s (k + 1) ≤ sizeTo s k + 50 := fun k hk' => by have := one_each (ho k hk'); simp only [sizeTo]; omega
    have hle := sizeTo_le s (Nat.le_of_lt m2)
    have hone : sizeTo s 1 ≤ 51 := by have h0 := hstep 0 (by omega); rw [Nat.zero_add] at h0; omega
    have htop : sizeTo s m ≤ 200 := by
      by_cases hm : m = 1
      · rw [hm]; omega
      · have a1 := m3 (m - 1) (by omega) (by omega)
        rw [e1 _ (by omega), hhalf] at a1
        have a2 := hstep (m - 1) (by omega)
        rw [show m - 1 + 1 = m by omega] at a2
        omega
    have hlow : sizeTo s s.keys.length ≤ sizeTo s m + 180 := by
      by_cases hm : m + 1 < s.keys.length
      · have a1 := m4 hm
        rw [e1 _ (by omega), hhalf] at a1
        omega
      · have a2 := hstep m m2
        rw [show m + 1 = s.keys.length by omega] at a2
        omega
    refine ⟨may_part hl hr ho 0 m m (by omega) (by omega) (by omega), ?_⟩
    rw [hmost]
    exact may_part hl hr ho m s.keys.length s.keys.length (by omega) m2 (by omega)
end Go.Proofs.Ytnjpibbmgbiofaa
