/- TreeOrder: the entries that are its own. Plain. No condition. -/
import Derived.Test.YtdakohbfibcjeaaR15
import Derived.Test.YtdakohbfibcjeaaTvW
namespace Go.Proofs.Ytdakohbfibcjeaa
set_option linter.unusedSimpArgs false
set_option linter.unusedVariables false

def ownS (o : List Ent) (x : Ent) : List Ent := if decide (okE x) && !decide (∃ e ∈ o, e.1 = x.1) then o ++ [x] else o
def Own1 (o : List Ent) : Prop := (∀ e ∈ o, okE e) ∧ o.Pairwise (fun a b => a.1 ≠ b.1)
theorem own1_nil : Own1 [] := ⟨fun e he => (by cases he), List.Pairwise.nil⟩
theorem own1_step {o : List Ent} (h : Own1 o) (x : Ent) : Own1 (ownS o x) ∧ (ownS o x).length ≤ o.length + 1 := by
  unfold ownS
  split
  · rename_i hc
    simp only [Bool.and_eq_true, decide_eq_true_eq, Bool.not_eq_true', decide_eq_false_iff_not] at hc
    refine ⟨⟨fun e he => ?_, List.pairwise_append.2 ⟨h.2, List.pairwise_singleton _ _, fun a ha b hb => ?_⟩⟩, by simp⟩
    · rcases List.mem_append.1 he with he | he
      · exact h.1 e he
      · obtain rfl := List.mem_singleton.1 he; exact hc.1
    · obtain rfl := List.mem_singleton.1 hb
      exact fun e => hc.2 ⟨a, ha, e⟩
  · exact ⟨h, by omega⟩
/-- the next one goes in ahead -/
theorem own1_take {o : List Ent} (h : Own1 o) {i : Nat} {x : Ent} (hx : o[i]? = some x) : okE x ∧ (∀ e ∈ o.take i, e.1 ≠ x.1) ∧ o.take (i + 1) = o.take i ++ [x] := by
  obtain ⟨hi, rfl⟩ := List.getElem?_eq_some_iff.1 hx
  refine ⟨h.1 _ (List.getElem_mem hi), fun e he => ?_, by rw [List.take_succ_eq_append_getElem hi]⟩
  obtain ⟨j, hj, rfl⟩ := List.mem_iff_getElem.1 he
  rw [List.length_take] at hj
  rw [List.getElem_take]
  exact List.pairwise_iff_getElem.1 h.2 j i (by omega) hi (by omega)
theorem own1_drop {o : List Ent} (h : Own1 o) {i : Nat} {x : Ent} (hx : o[i]? = some x) : okE x ∧ (∀ e ∈ o.drop (i + 1), e.1 ≠ x.1) ∧ o.drop i = x :: o.drop (i + 1) := by
  obtain ⟨hi, rfl⟩ := List.getElem?_eq_some_iff.1 hx
  refine ⟨h.1 _ (List.getElem_mem hi), fun e he => ?_, List.drop_eq_getElem_cons hi⟩
  obtain ⟨j, hj, rfl⟩ := List.mem_iff_getElem.1 he
  rw [List.length_drop] at hj
  rw [List.getElem_drop]
  exact fun e => List.pairwise_iff_getElem.1 h.2 i (i + 1 + j) hi (by omega) (by omega) e.symm
theorem tr1_pw {N r : Nat} {T : Nodes} {es : List Ent} {bl : List Nat} (h : Tr1 N T r es bl) : es.Pairwise (fun a b => ky a.1 b.1) := by
  rcases h with ⟨_, rfl, _⟩ | ⟨h, hs⟩
  · exact List.Pairwise.nil
  · exact sd_pw hs
theorem perm_same {a b : List Ent} (ha : a.Pairwise (fun a b => ky a.1 b.1)) (hb : b.Pairwise (fun a b => ky a.1 b.1)) (h : a.Perm b) : a = b := by
  induction a generalizing b with
  | nil => exact (List.Perm.nil_eq h)
  | cons x a ih =>
    cases b with
    | nil => exact absurd h.length_eq (by simp)
    | cons y b =>
      obtain ⟨a1, a2⟩ := List.pairwise_cons.1 ha
      obtain ⟨b1, b2⟩ := List.pairwise_cons.1 hb
      have hxy : x = y := by
        rcases List.mem_cons.1 (h.mem_iff.1 List.mem_cons_self) with e | e
        · exact e
        · rcases List.mem_cons.1 (h.mem_iff.2 (List.mem_cons_self (a := y))) with e2 | e2
          · exact e2.symm
          · exact absurd (ky_trans (a1 y e2) (b1 x e)) (ky_irr _)
      subst hxy
      rw [ih a2 b2 (List.Perm.cons_inv h)]
theorem two_new (N : Nat) : Two N (fun _ => none) 0 [] 0 [] := ⟨[], [], N, .inl ⟨rfl, rfl, rfl⟩, .inl ⟨rfl, rfl, rfl⟩, List.nodup_nil, List.nodup_nil, fun n h => (by cases h), room_new N, by simp⟩
end Go.Proofs.Ytdakohbfibcjeaa
