/- A sector's versions are dropped: what a disk is then; a version's bytes in memory. No condition. -/
import Derived.Test.YtjndopmjlbhajaaDkC
import Derived.Test.YtjndopmjlbhajaaDkDirty
namespace Go.Proofs.Ytjndopmjlbhajaa
open Go.RowKit Go.Maps

def delV (s : Dsk) (k : Nat) : Dsk := { s with vers := fun j => if j = k then [] else s.vers j }
section
variable {w w2 : World} {base : Nat} {d : Dw} {s : Dsk}
theorem Dk.del (h : Dk w base d s) {k : Nat} (hk : k < s.n) {D : DataW Value} (hD : MapD w d s D) (hm : w2.ownsMap Try.prog 3 RV d.M s.n (D.del (kl k))) (hg : w.grownBy w2 (some d.M)) :
    Ch w w2 base d (d.put k ⟨none, 0⟩) (delV s k) := by
  have K : Kept (fun b => b = d.M) w w2 := Kept.of_grown hg (fun b e => (Option.some.inj e).symm)
  have hkk : ∀ j, j ≠ k → (d.put k ⟨none, 0⟩).v j = d.v j := fun j hj => by show (if j = k then _ else _) = _; rw [if_neg hj]
  have hks : (d.put k ⟨none, 0⟩).v k = ⟨none, 0⟩ := by show (if k = k then _ else _) = _; rw [if_pos rfl]
  have hvk : ∀ j, j ≠ k → (delV s k).vers j = s.vers j := fun j hj => by show (if j = k then _ else _) = _; rw [if_neg hj]
  have hvs : (delV s k).vers k = [] := by show (if k = k then _ else _) = _; rw [if_pos rfl]
  have hfoot : ∀ b, (d.put k ⟨none, 0⟩).foot b → d.foot b := fun b hb => by
    rcases hb with hb | hb | hb | ⟨j, hb⟩
    · exact .inl hb
    · exact .inr (.inl hb)
    · exact .inr (.inr (.inl hb))
    · by_cases e : j = k
      · subst e; rw [hks] at hb; cases hb
      · rw [hkk j e] at hb; exact .inr (.inr (.inr ⟨j, hb⟩))
  refine ⟨⟨K.blk h.blk (fun e => h.ne.2.1 e.symm), Nat.lt_of_lt_of_le h.llt K.size, fun j hj => range_kept (h.lies j hj) (K.block d.L h.llt (fun e => h.ne.2.2 e.symm)), there_kept h.there (K.block d.L h.llt (fun e => h.ne.2.2 e.symm)), ⟨_, hm, fun j hj => ?_, fun y hy => ?_⟩, fun j hj => ?_, fun j hj => ?_, fun i j hij => ?_, fun j => ?_, fun j hj => ⟨(h.len j hj).1, ?_⟩, h.small, h.left, h.bases, h.ne, rowAt_block h.lty (K.block d.L h.llt (fun e => h.ne.2.2 e.symm))⟩, rfl, K.mono (fun b _ e => .inr (.inr (.inl e))), fun b hb => .inl (hfoot b hb)⟩
  · by_cases e : j = k
    · subst e
      rw [atKey_del_same, hks, hvs]; rfl
    · rw [atKey_del_other (kl_ne e), hD.2.1 j hj, hkk j e, hvk j e]
  · by_cases e : y = kl k
    · subst e; rw [has_del_same] at hy; cases hy
    · rw [has_del_other e] at hy
      obtain ⟨j, hj, e2, h2⟩ := hD.2.2 y hy
      have hjk : j ≠ k := fun e3 => e (by rw [e2, e3])
      exact ⟨j, hj, e2, by rw [hvk j hjk]; exact h2⟩
  · by_cases e : j = k
    · subst e
      rw [hks, hvs]
      exact Own.nil_ _ _ _ _
    · rw [hkk j e, hvk j e]
      exact own_kept (h.vers j hj) K (fun b hb e2 => by subst e2; exact h.apM j hb)
  · have e : j ≠ k := fun e => by have : s.n ≤ j := hj; omega
    rw [hkk j e]; exact h.out j hj
  · by_cases e1 : i = k
    · subst e1; rw [hks]; exact .inl rfl
    · by_cases e2 : j = k
      · subst e2
        rw [hks, hkk i e1]
        cases hb : ablk (d.v i).A with
        | none => exact .inl rfl
        | some b => exact .inr (by simp)
      · rw [hkk i e1, hkk j e2]; exact h.apart i j hij
  · by_cases e : j = k
    · subst e; rw [hks]; simp
    · rw [hkk j e]; exact h.apL j
  · intro x hx
    by_cases e : j = k
    · subst e; rw [hvs] at hx; cases hx
    · rw [hvk j e] at hx; exact (h.len j hj).2 x hx
/-- a version of a sector -/
theorem Dk.ver (h : Dk w base d s) {k q : Nat} (hk : k < s.n) (hq : q < (s.vers k).length) : ∃ b, (d.v k).A = some ⟨b, 0, none⟩ ∧ w.rangeAt b (q * 256) (bvs ((s.vers k).getD q [])) ∧ ((s.vers k).getD q []).length = 256 := by
  obtain ⟨b, hA, _, _⟩ := (h.vers k hk).head (by omega)
  have ho := (h.vers k hk).rd
  rw [hA] at ho
  have hr := rd_range ho
  have hl := (h.len k hk).2
  have hx : (s.vers k).getD q [] = (s.vers k)[q] := by rw [List.getD_eq_getElem?_getD, List.getElem?_eq_getElem hq]; rfl
  have hsp : s.vers k = (s.vers k).take q ++ (s.vers k)[q] :: (s.vers k).drop (q + 1) := by
    rw [← List.drop_eq_getElem_cons hq, List.take_append_drop]
  refine ⟨b, hA, ?_, by rw [hx]; exact hl _ (List.getElem_mem _)⟩
  rw [hx]
  have e : bvs (s.vers k).flatten = bvs ((s.vers k).take q).flatten ++ bvs (s.vers k)[q] ++ bvs ((s.vers k).drop (q + 1)).flatten := by
    have e0 : (s.vers k).flatten = (((s.vers k).take q).flatten ++ (s.vers k)[q]) ++ ((s.vers k).drop (q + 1)).flatten := by
      have := congrArg List.flatten hsp
      rw [List.flatten_append, List.flatten_cons, ← List.append_assoc] at this
      exact this
    rw [e0, bvs_append, bvs_append]
  rw [e] at hr
  have := range_part hr
  rw [Nat.zero_add, length_bvs, flatten_len (fun y hy => hl y (List.mem_of_mem_take hy)), List.length_take, Nat.min_eq_left (by omega)] at this
  exact this
end
end Go.Proofs.Ytjndopmjlbhajaa
