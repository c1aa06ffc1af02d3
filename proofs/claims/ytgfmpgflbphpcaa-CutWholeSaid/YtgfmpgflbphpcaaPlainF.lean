/- More on the digest in plain Lean. -/
import Derived.Test.YtgfmpgflbphpcaaPlainE
namespace Go.Proofs.Ytgfmpgflbphpcaa

theorem word4_take (b : List UInt8) (i : Nat) (h : i < 16) : word4 (b.take 64) i = word4 b i := by
  have e : ∀ j, j < 64 → (b.take 64).getD j 0 = b.getD j 0 := fun j hj => by
    rw [List.getD_eq_getElem?_getD, List.getElem?_take_of_lt hj, ← List.getD_eq_getElem?_getD]
  unfold word4
  rw [e _ (by omega), e _ (by omega), e _ (by omega), e _ (by omega)]
theorem sched_take (b : List UInt8) (n : Nat) : sched (b.take 64) n = sched b n := by
  induction n with
  | zero => rfl
  | succ n ih =>
    simp only [sched, ih]
    split
    · rename_i h
      rw [word4_take b n h]
    · rfl
/-- eight words below 2^32 -/
def W8 (x : List Nat) : Prop := x.length = 8 ∧ ∀ w ∈ x, w < 4294967296
theorem list8 {x : List Nat} (h : x.length = 8) : ∃ a b c d e f g k, x = [a, b, c, d, e, f, g, k] := by
  match x, h with
  | [a, b, c, d, e, f, g, k], _ => exact ⟨a, b, c, d, e, f, g, k, rfl⟩
theorem W8.cases {x : List Nat} (h : W8 x) : ∃ a b c d e f g k, x = [a, b, c, d, e, f, g, k] ∧ a < 4294967296 ∧ b < 4294967296 ∧ c < 4294967296 ∧ d < 4294967296 ∧ e < 4294967296 ∧ f < 4294967296 ∧ g < 4294967296 ∧ k < 4294967296 := by
  obtain ⟨h1, h2⟩ := h
  obtain ⟨a, b, c, d, e, f, g, k, rfl⟩ := list8 h1
  simp only [List.mem_cons, List.not_mem_nil, or_false, forall_eq_or_imp, forall_eq] at h2
  exact ⟨a, b, c, d, e, f, g, k, rfl, h2⟩
theorem shaT_lt (e f g h k w : Nat) : shaT e f g h k w < 4294967296 := Nat.mod_lt _ (by omega)
theorem W8.step {x : List Nat} (h : W8 x) (k w : Nat) : W8 (shaStep x k w) := by
  obtain ⟨a, b, c, d, e, f, g, n, rfl, ha, hb, hc, hd, he, hf, hg, hn⟩ := h.cases
  refine ⟨rfl, ?_⟩
  simp only [shaStep, List.mem_cons, List.not_mem_nil, or_false, forall_eq_or_imp, forall_eq]
  exact ⟨Nat.mod_lt _ (by omega), ha, hb, hc, Nat.mod_lt _ (by omega), he, hf, hg⟩
theorem W8.rounds {s : List Nat} (h : W8 s) (w : List Nat) (n : Nat) : W8 (shaRounds s w n) := by
  induction n with
  | zero => exact h
  | succ n ih => exact ih.step _ _
/-- the first j words added -/
def addP (s x : List Nat) : Nat → List Nat
  | 0 => s
  | j + 1 => (addP s x j).set j ((s.getD j 0 + x.getD j 0) % 4294967296)
theorem addP_8 {s x : List Nat} (hs : W8 s) (hx : W8 x) : addP s x 8 = addW s x := by
  obtain ⟨a, b, c, d, e, f, g, n, rfl, _⟩ := hs.cases
  obtain ⟨a', b', c', d', e', f', g', n', rfl, _⟩ := hx.cases
  rfl
theorem length_addP (s x : List Nat) (j : Nat) : (addP s x j).length = s.length := by
  induction j with
  | zero => rfl
  | succ j ih => rw [addP, List.length_set, ih]
theorem addP_get (s x : List Nat) (j : Nat) : ∀ i, j ≤ i → (addP s x j).getD i 0 = s.getD i 0 := by
  induction j with
  | zero => intro i _; rfl
  | succ j ih =>
    intro i hi
    rw [addP, List.getD_eq_getElem?_getD, List.getElem?_set_ne (by omega), ← List.getD_eq_getElem?_getD, ih i (by omega)]
theorem W8.addW {s x : List Nat} (hs : W8 s) (hx : W8 x) : W8 (addW s x) := by
  obtain ⟨a, b, c, d, e, f, g, n, rfl, _⟩ := hs.cases
  obtain ⟨a', b', c', d', e', f', g', n', rfl, _⟩ := hx.cases
  refine ⟨rfl, ?_⟩
  simp only [Proofs.Ytgfmpgflbphpcaa.addW, List.zipWith, List.mem_cons, List.not_mem_nil, or_false, forall_eq_or_imp, forall_eq]
  refine ⟨?_, ?_, ?_, ?_, ?_, ?_, ?_, ?_⟩ <;> exact Nat.mod_lt _ (by omega)
theorem W8.block {s : List Nat} (hs : W8 s) (b : List UInt8) : W8 (shaBlock s b) := hs.addW (hs.rounds _ _)
theorem W8_H : W8 shaH := ⟨rfl, by decide⟩
theorem W8.blocks {s : List Nat} (hs : W8 s) (l : List UInt8) (n : Nat) : W8 (shaBlocks s l n) := by
  induction n with
  | zero => exact hs
  | succ n ih => exact ih.block _
theorem length_shaK : shaK.length = 64 := rfl
theorem shaK_getD (i : Nat) : shaK.getD i 0 < 4294967296 := by
  rw [List.getD_eq_getElem?_getD]
  cases h : shaK[i]? with
  | none => simp
  | some w => exact shaK_lt w (List.mem_of_getElem? h)
end Go.Proofs.Ytgfmpgflbphpcaa
