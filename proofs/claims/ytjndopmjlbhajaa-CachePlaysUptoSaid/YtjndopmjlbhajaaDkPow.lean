/- What a disk has behind a loss of power. No condition. -/
import Derived.Test.YtjndopmjlbhajaaDkPower
namespace Go.Proofs.Ytjndopmjlbhajaa

theorem step_lies (t : Dsk) (ps : List Int) (i k j : Nat) : (powerStep t ps i k).lies j = t.lies j ∨ (powerStep t ps i k).lies j ∈ t.vers j := by
  unfold powerStep delV
  split
  · rename_i h
    show (if j = k then _ else t.lies j) = _ ∨ (if j = k then _ else t.lies j) ∈ _
    by_cases e : j = k
    · rw [if_pos e]
      right
      subst e
      have hp := pmod_le (ps.getD i 0) (t.vers j).length
      rw [List.getD_eq_getElem?_getD, List.getElem?_eq_getElem (by omega)]
      exact List.getElem_mem _
    · rw [if_neg e]; exact .inl rfl
  · exact .inl rfl
theorem step_cut (t : Dsk) (ps : List Int) (i k : Nat) : (powerStep t ps i k).cut = t.cut := by
  unfold powerStep delV
  split <;> rfl
theorem step_nil (t : Dsk) (i k : Nat) : (powerStep t [] i k).lies = t.lies := by
  unfold powerStep delV
  rw [if_neg (by simp)]
theorem powerTo_inv (s : Dsk) (ps : List Int) : ∀ i, (powerTo s ps i).cut = false ∧ ∀ k, ((powerTo s ps i).lies k = s.lies k ∨ (powerTo s ps i).lies k ∈ s.vers k) ∧ ((powerTo s ps i).vers k = s.vers k ∨ (powerTo s ps i).vers k = []) ∧ ((∃ j, j < i ∧ (dirtyL s).getD j 0 = k) → (powerTo s ps i).vers k = [])
  | 0 => ⟨rfl, fun k => ⟨.inl rfl, .inl rfl, fun ⟨j, hj, _⟩ => absurd hj (by omega)⟩⟩
  | i + 1 => by
    obtain ⟨h1, h2⟩ := powerTo_inv s ps i
    rw [powerTo]
    refine ⟨by rw [step_cut]; exact h1, fun k => ?_⟩
    obtain ⟨a, b, c⟩ := h2 k
    refine ⟨?_, ?_, ?_⟩
    · rcases step_lies (powerTo s ps i) ps i ((dirtyL s).getD i 0) k with e | e
      · rw [e]; exact a
      · rcases b with b | b
        · rw [b] at e; exact .inr e
        · rw [b] at e; cases e
    · rw [step_vers]
      split
      · exact .inr rfl
      · exact b
    · rintro ⟨j, hj, e⟩
      rw [step_vers]
      split
      · rfl
      · rename_i hne
        refine c ⟨j, ?_, e⟩
        by_cases hji : j = i
        · subst hji; exact absurd e.symm hne
        · omega
theorem power_all (s : Dsk) (ps : List Int) : (powerD s ps).n = s.n ∧ (powerD s ps).cut = false ∧ ∀ k, k < s.n → (powerD s ps).vers k = [] ∧ ((powerD s ps).lies k = s.lies k ∨ (powerD s ps).lies k ∈ s.vers k) := by
  obtain ⟨h1, h2⟩ := powerTo_inv s ps (dirtyL s).length
  refine ⟨powerTo_n s ps _, h1, fun k hk => ?_⟩
  obtain ⟨a, b, c⟩ := h2 k
  refine ⟨?_, a⟩
  by_cases hv : s.vers k = []
  · rcases b with b | b
    · show (powerTo s ps _).vers k = []
      rw [b, hv]
    · exact b
  · obtain ⟨j, hj, e⟩ := List.getElem_of_mem (mem_dirty.2 ⟨hk, hv⟩)
    refine c ⟨j, hj, ?_⟩
    rw [List.getD_eq_getElem?_getD, List.getElem?_eq_getElem hj]
    exact e
theorem powerTo_nil (s : Dsk) : ∀ i, (powerTo s [] i).lies = s.lies
  | 0 => rfl
  | i + 1 => by rw [powerTo, step_nil, powerTo_nil s i]
theorem power_nil (s : Dsk) : (powerD s []).lies = s.lies := powerTo_nil s _
theorem hasD_flat {s : Dsk} {k : Nat} (h : s.vers k = []) : hasD s k = s.lies k := hasD_none (by rw [h]; rfl)
end Go.Proofs.Ytjndopmjlbhajaa
